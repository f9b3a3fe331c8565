/- A region that draws its order, in which what operations leave may hang on the order (a new block's address) and grows; a last part that waits for all of it comes behind. -/
import Derived.Test.YteecgdbicokgoaaConf
import Derived.Test.YteecgdbicokgoaaKit
namespace Go.Proofs.Yteecgdbicokgoaa
set_option linter.unusedVariables false
set_option linter.unusedSimpArgs false
section
variable {P : Program} {md : Region.Mode} {ops : Array Oper} {Q : Exit → Act → World → Prop}
/-- What an operation waits for, through others too. -/
inductive Needs (md : Region.Mode) (ops : Array Oper) : Nat → Nat → Prop
  | at_ {i : Nat} {o : Oper} {e : Edge} : ops[i]? = some o → e ∈ o.after → Region.binds md e = true → Needs md ops i e.on
  | via {i j : Nat} {o : Oper} {e : Edge} : ops[i]? = some o → e ∈ o.after → Region.binds md e = true → Needs md ops e.on j → Needs md ops i j
theorem Needs.listed {i j : Nat} (h : Needs md ops i j) : ∀ {L : Array Bool}, Shut md ops L → (∀ o, ops[i]? = some o → ∀ e ∈ o.after, Region.binds md e = true → L.getD e.on false = true) → L.getD j false = true := by
  induction h with
  | at_ ho he hb => intro L hs hd; exact hd _ ho _ he hb
  | via ho he hb _ ih => intro L hs hd; exact ih hs fun o' ho' e' he' hb' => hs _ o' ho' (hd _ ho _ he hb) e' he' hb'
theorem Needs.less (T : Tidy md ops) {i j : Nat} (h : Needs md ops i j) : j < i := by
  induction h with
  | at_ ho he hb => exact T.less _ _ ho _ he hb
  | via ho he hb _ ih => have := T.less _ _ ho _ he hb; omega
def closOf (md : Region.Mode) (t : List Nat) (o : Oper) : Nat := o.after.toList.foldl (fun m e => if Region.binds md e then m ||| (1 <<< e.on) ||| t.getD e.on 0 else m) 0
def clos (md : Region.Mode) (ops : List Oper) : List Nat := ops.foldl (fun t o => t ++ [closOf md t o]) []
def needsB (md : Region.Mode) (ops : Array Oper) (i j : Nat) : Bool := ((clos md ops.toList).getD i 0).testBit j
theorem closOf_spec (t : List Nat) (j : Nat) : ∀ (l : List Edge) (m : Nat), (l.foldl (fun m e => if Region.binds md e then m ||| (1 <<< e.on) ||| t.getD e.on 0 else m) m).testBit j = true →
    m.testBit j = true ∨ ∃ e ∈ l, Region.binds md e = true ∧ (e.on = j ∨ (t.getD e.on 0).testBit j = true)
  | [], m, h => .inl h
  | e :: l, m, h => by
    rw [List.foldl_cons] at h
    rcases closOf_spec t j l _ h with h1 | ⟨e', he', h2⟩
    · split at h1
      · next hb =>
        rw [Nat.testBit_or, Nat.testBit_or, Bool.or_eq_true, Bool.or_eq_true] at h1
        rcases h1 with (h1 | h1) | h1
        · exact .inl h1
        · refine .inr ⟨e, by simp, hb, .inl ?_⟩
          rw [Nat.one_shiftLeft, Nat.testBit_two_pow] at h1
          simpa using h1
        · exact .inr ⟨e, by simp, hb, .inr h1⟩
      · exact .inl h1
    · exact .inr ⟨e', by simp [he'], h2⟩
theorem clos_go : ∀ (rest : List Oper) (t : List Nat), (∀ i j, (t.getD i 0).testBit j = true → Needs md ops i j) → (∀ (m : Nat) (o : Oper), rest[m]? = some o → ops[t.length + m]? = some o) →
    ∀ i j, ((rest.foldl (fun t o => t ++ [closOf md t o]) t).getD i 0).testBit j = true → Needs md ops i j
  | [], t, h, _, i, j, hb => h i j hb
  | o :: rest, t, h, hr, i, j, hb => by
    rw [List.foldl_cons] at hb
    refine clos_go rest _ (fun i j hij => ?_) (fun m o' hm => ?_) i j hb
    · rcases Nat.lt_trichotomy i t.length with hi | hi | hi
      · rw [List.getD_eq_getElem?_getD, List.getElem?_append_left hi, ← List.getD_eq_getElem?_getD] at hij
        exact h i j hij
      · subst hi
        rw [List.getD_eq_getElem?_getD, List.getElem?_append_right (Nat.le_refl _), Nat.sub_self] at hij
        have ho := hr 0 o rfl
        rw [Nat.add_zero] at ho
        rcases closOf_spec t j o.after.toList 0 hij with h1 | ⟨e, he, hb, h1⟩
        · simp at h1
        · rcases h1 with rfl | h1
          · exact .at_ ho (by simpa using he) hb
          · exact .via ho (by simpa using he) hb (h _ _ h1)
      · rw [List.getD_eq_getElem?_getD, List.getElem?_eq_none (by simp; omega)] at hij
        simp at hij
    · have := hr (m + 1) o' (by simpa using hm)
      rw [List.length_append, List.length_singleton, Nat.add_assoc, Nat.add_comm 1 m]
      exact this
theorem needs_of {i j : Nat} (h : needsB md ops i j = true) : Needs md ops i j :=
  clos_go ops.toList [] (fun i j h => by simp at h) (fun m o hm => by simpa using hm) i j h
/-- What an operation may leave: a value that hangs on a ghost, of which this stays true. -/
structure Gh (γ : Type) where
  val : γ → Value
  F : γ → World → Prop
/-- What stays as worlds grow. -/
structure Stays {γ : Type} (S : World → Prop) (E : World → World → Prop) (G : Nat → Option (Gh γ)) : Prop where
  keep : ∀ w w', S w → E w w' → S w'
  refl : ∀ w, E w w
  fact : ∀ k gh g w w', G k = some gh → gh.F g w → E w w' → gh.F g w'
def FactL (md : Region.Mode) (ops : Array Oper) (k : Nat) (Fl : List (Nat × (World → Prop))) (w : World) : Prop := ∀ j f, (j, f) ∈ Fl → Needs md ops k j → f w
inductive wpG {γ : Type} (P : Program) (md : Region.Mode) (ops : Array Oper) (Q : Exit → Act → World → Prop) (S : World → Prop) (E : World → World → Prop) (G : Nat → Option (Gh γ)) (tl dn : List Nat) : Nat → Act → List (Nat × (World → Prop)) → Prop
  | done {k : Nat} {a : Act} {Fl : List (Nat × (World → Prop))} : ops.size ≤ k → (∀ w, S w → (∀ j f, (j, f) ∈ Fl → f w) → wpList P ops Q (tl.filterMap (ops[·]?)) a w) → wpG P md ops Q S E G tl dn k a Fl
  | gone {k : Nat} {a : Act} {Fl : List (Nat × (World → Prop))} : k ∈ dn → wpG P md ops Q S E G tl dn (k + 1) a Fl → wpG P md ops Q S E G tl dn k a Fl
  | tail {k : Nat} {a : Act} {Fl : List (Nat × (World → Prop))} : k ∈ tl → wpG P md ops Q S E G tl dn (k + 1) a Fl → wpG P md ops Q S E G tl dn k a Fl
  | skip {k : Nat} {a : Act} {Fl : List (Nat × (World → Prop))} {o : Oper} : k ∉ tl → k ∉ dn → ops[k]? = some o → Region.wanted o (yielded ops a.tmps) = false → wpG P md ops Q S E G tl dn (k + 1) (a.put o.dst undef) Fl → wpG P md ops Q S E G tl dn k a Fl
  | pure {k : Nat} {a : Act} {Fl : List (Nat × (World → Prop))} {o : Oper} {v : Value} : k ∉ tl → k ∉ dn → ops[k]? = some o → G k = none → Region.wanted o (yielded ops a.tmps) = true →
      (∀ w, S w → FactL md ops k Fl w → (execOp a.eval o).run P w = .ok (.value v) w) → wpG P md ops Q S E G tl dn (k + 1) (a.put o.dst v) Fl → wpG P md ops Q S E G tl dn k a Fl
  | grow {k : Nat} {a : Act} {Fl : List (Nat × (World → Prop))} {o : Oper} {gh : Gh γ} : k ∉ tl → k ∉ dn → ops[k]? = some o → G k = some gh → Region.wanted o (yielded ops a.tmps) = true →
      (∀ w, S w → FactL md ops k Fl w → Oper.wp P o a w (fun a' w' => ∃ g, a' = a.put o.dst (gh.val g) ∧ E w w' ∧ gh.F g w') QF) →
      (∀ g, wpG P md ops Q S E G tl dn (k + 1) (a.put o.dst (gh.val g)) ((k, gh.F g) :: Fl)) → wpG P md ops Q S E G tl dn k a Fl

variable {γ : Type} {S : World → Prop} {E : World → World → Prop} {G : Nat → Option (Gh γ)} {tl dn : List Nat}
def FactOf (ops : Array Oper) (G : Nat → Option (Gh γ)) (dn : List Nat) (gs : Nat → γ) (b : Act) (j : Nat) (w : World) : Prop :=
  ∀ gh o, ops[j]? = some o → j ∉ dn → G j = some gh → Region.wanted o (yielded ops b.tmps) = true → gh.F (gs j) w
structure GInv (P : Program) (md : Region.Mode) (ops : Array Oper) (S : World → Prop) (G : Nat → Option (Gh γ)) (tl dn : List Nat) (a0 : Act) (gs : Nat → γ) (L : Array Bool) (b : Act) (w : World) : Prop where
  s : S w
  lsize : L.size = ops.size
  shut : Shut md ops L
  defers : b.defers = a0.defers
  size : b.tmps.size = a0.tmps.size
  sub : ∀ i, L.getD i false = true → i ∉ tl
  dnl : ∀ i, i < ops.size → i ∈ dn → L.getD i false = true
  old : ∀ t, (∀ (j : Nat) (o : Oper), ops[j]? = some o → L.getD j false = true → j ∉ dn → o.dst ≠ some t) → b.tmps[t]? = a0.tmps[t]?
  sk : ∀ (i : Nat) (o : Oper), ops[i]? = some o → L.getD i false = true → i ∉ dn → Region.wanted o (yielded ops b.tmps) = false → ∀ t, o.dst = some t → t < b.tmps.size → b.tmps[t]? = some undef
  pu : ∀ (i : Nat) (o : Oper), ops[i]? = some o → L.getD i false = true → i ∉ dn → G i = none → Region.wanted o (yielded ops b.tmps) = true →
    ∃ w' v, S w' ∧ (∀ j, Needs md ops i j → FactOf ops G dn gs b j w') ∧ (execOp b.eval o).run P w' = .ok (.value v) w' ∧ ∀ t, o.dst = some t → t < b.tmps.size → b.tmps[t]? = some v
  gr : ∀ (i : Nat) (o : Oper) (gh : Gh γ), ops[i]? = some o → L.getD i false = true → i ∉ dn → G i = some gh → Region.wanted o (yielded ops b.tmps) = true →
    gh.F (gs i) w ∧ ∀ t, o.dst = some t → t < b.tmps.size → b.tmps[t]? = some (gh.val (gs i))
/-- How the operation at hand goes, in the state at hand. -/
def Goes (P : Program) (ops : Array Oper) (E : World → World → Prop) (G : Nat → Option (Gh γ)) (o : Oper) (i : Nat) (b : Act) (w : World) : Prop :=
  Region.wanted o (yielded ops b.tmps) = false ∨
  (Region.wanted o (yielded ops b.tmps) = true ∧ G i = none ∧ ∃ v, (execOp b.eval o).run P w = .ok (.value v) w) ∨
  (Region.wanted o (yielded ops b.tmps) = true ∧ ∃ gh, G i = some gh ∧ Oper.wp P o b w (fun a' w' => ∃ g, a' = b.put o.dst (gh.val g) ∧ E w w' ∧ gh.F g w') QF)
structure Agr (ops : Array Oper) (G : Nat → Option (Gh γ)) (tl dn : List Nat) (gs : Nat → γ) (L : Array Bool) (b : Act) (k : Nat) (a : Act) (Fl : List (Nat × (World → Prop))) : Prop where
  size : a.tmps.size = b.tmps.size
  defers : a.defers = b.defers
  a1 : ∀ t, (∀ (j : Nat) (o : Oper), ops[j]? = some o → o.dst = some t → (j < k ∧ L.getD j false = true) ∨ j ∈ tl ∨ j ∈ dn) → a.tmps[t]? = b.tmps[t]?
  a2 : ∀ j f, (j, f) ∈ Fl → (j < k ∧ (j ∉ tl ∧ j ∉ dn) ∧ j < ops.size) ∧ (L.getD j false = true → ∀ w', FactOf ops G dn gs b j w' → f w')
/-- The plan's state and the one at hand agree on what an operation looks at that is up. -/
theorem Agr.look (T : Tidy md ops) {gs : Nat → γ} {L : Array Bool} {b a : Act} {k : Nat} {Fl : List (Nat × (World → Prop))} (A : Agr ops G tl dn gs L b k a Fl) {o : Oper} (ho : ops[k]? = some o)
    (hd : ∀ e ∈ o.after, Region.binds md e = true → L.getD e.on false = true) : ∀ t ∈ o.looksAt ops, a.tmps[t]? = b.tmps[t]? := fun t ht => A.a1 t fun j p hp hdst => by
  obtain ⟨e, he, hb, hon⟩ := T.look k o j p t ho hp hdst ht
  have h1 := hd e he hb
  have h2 := T.less k o ho e he hb
  rw [hon] at h1 h2
  exact .inl ⟨h2, h1⟩
theorem Agr.put (T : Tidy md ops) {gs : Nat → γ} {L : Array Bool} {b a : Act} {k : Nat} {Fl Fl' : List (Nat × (World → Prop))} (A : Agr ops G tl dn gs L b k a Fl) {o : Oper} (ho : ops[k]? = some o) (hk : k ∉ tl) (hkd : k ∉ dn) (v : Value)
    (hv : L.getD k false = true → ∀ t, o.dst = some t → t < b.tmps.size → b.tmps[t]? = some v)
    (h2 : ∀ j f, (j, f) ∈ Fl' → (j, f) ∈ Fl ∨ (j = k ∧ (L.getD k false = true → ∀ w', FactOf ops G dn gs b k w' → f w'))) : Agr ops G tl dn gs L b (k + 1) (a.put o.dst v) Fl' := by
  refine ⟨(put_size _ _ _).trans A.size, (put_defers _ _ _).trans A.defers, fun t ht => ?_, fun j f hf => ?_⟩
  · by_cases hd : o.dst = some t
    · have hLk : L.getD k false = true := by
        rcases ht k o ho hd with h | h | h
        · exact h.2
        · exact absurd h hk
        · exact absurd h hkd
      by_cases htz : t < b.tmps.size
      · rw [hv hLk t hd htz, hd, put_get_eq _ _ _ (by rw [A.size]; exact htz)]
      · have hta := Nat.le_of_not_lt htz
        rw [Array.getElem?_eq_none (by rw [put_size, A.size]; exact hta), Array.getElem?_eq_none hta]
    · rw [put_get_ne _ _ _ _ hd]
      refine A.a1 t fun j p hp hdst => ?_
      rcases ht j p hp hdst with h | h
      · by_cases hjk : j = k
        · subst hjk
          rw [ho] at hp
          cases hp
          exact absurd hdst hd
        · exact .inl ⟨by omega, h.2⟩
      · exact .inr h
  · rcases h2 j f hf with h | ⟨rfl, h⟩
    · have := A.a2 j f h
      exact ⟨⟨by omega, this.1.2⟩, this.2⟩
    · exact ⟨⟨by omega, ⟨hk, hkd⟩, (Array.getElem?_eq_some_iff.1 ho).1⟩, h⟩
/-- Along the plan to the operation that is up, or to its end. -/
theorem wpG_goes (T : Tidy md ops) {a0 : Act} {gs : Nat → γ} {L : Array Bool} {b : Act} {w : World} (I : GInv P md ops S G tl dn a0 gs L b w) {k : Nat} {a : Act} {Fl : List (Nat × (World → Prop))}
    (h : wpG P md ops Q S E G tl dn k a Fl) : Agr ops G tl dn gs L b k a Fl →
    (∀ (i : Nat) (o : Oper), k ≤ i → ops[i]? = some o → i ∉ tl → i ∉ dn → (∀ e ∈ o.after, Region.binds md e = true → L.getD e.on false = true) → Goes P ops E G o i b w) ∧
    ((∀ i, i < ops.size → i ∉ tl → L.getD i false = true) → wpList P ops Q (tl.filterMap (ops[·]?)) b w) := by
  have facts : ∀ {k : Nat} {a : Act} {Fl : List (Nat × (World → Prop))} {o : Oper} (A : Agr ops G tl dn gs L b k a Fl) (ho : ops[k]? = some o) (hd : ∀ e ∈ o.after, Region.binds md e = true → L.getD e.on false = true) (w' : World),
      (∀ j, Needs md ops k j → FactOf ops G dn gs b j w') → FactL md ops k Fl w' := fun {k a Fl o} A ho hd w' hf j f hjf hn => by
    have hL : L.getD j false = true := hn.listed I.shut fun o' ho' e he hb => by
      rw [ho] at ho'
      cases ho'
      exact hd e he hb
    exact (A.a2 j f hjf).2 hL w' (hf j hn)
  have now : ∀ {k : Nat} {o : Oper} (ho : ops[k]? = some o) (hd : ∀ e ∈ o.after, Region.binds md e = true → L.getD e.on false = true), ∀ j, Needs md ops k j → FactOf ops G dn gs b j w := fun {k o} ho hd j hn gh p hp hjd hG hw => by
    have hL : L.getD j false = true := hn.listed I.shut fun o' ho' e he hb => by
      rw [ho] at ho'
      cases ho'
      exact hd e he hb
    exact (I.gr j p gh hp hL hjd hG hw).1
  induction h with
  | @done k a Fl hk hfin =>
    intro A
    refine ⟨fun i o hi ho => ?_, fun hall => ?_⟩
    · have := (Array.getElem?_eq_some_iff.1 ho).1
      omega
    · have hab : a = b := by
        have ht : a.tmps = b.tmps := Array.ext_getElem? fun t => A.a1 t fun j o ho hd => by
          have hz := (Array.getElem?_eq_some_iff.1 ho).1
          by_cases hj : j ∈ tl
          · exact .inr (.inl hj)
          · exact .inl ⟨by omega, hall j hz hj⟩
        obtain ⟨x, y⟩ := a
        obtain ⟨x', y'⟩ := b
        obtain rfl : x = x' := ht
        obtain rfl : y = y' := A.defers
        rfl
      subst hab
      refine hfin w I.s fun j f hf => ?_
      have h1 := A.a2 j f hf
      have hL := hall j h1.1.2.2 h1.1.2.1.1
      refine h1.2 hL w fun gh o ho hjd hG hw => (I.gr j o gh ho hL hjd hG hw).1
  | @gone k a Fl hk _ ih =>
    intro A
    have A' : Agr ops G tl dn gs L b (k + 1) a Fl := ⟨A.size, A.defers, fun t ht => A.a1 t fun j o ho hd => by
      rcases ht j o ho hd with h | h
      · by_cases hjk : j = k
        · subst hjk
          exact .inr (.inr hk)
        · exact .inl ⟨by omega, h.2⟩
      · exact .inr h, fun j f hf => by have := A.a2 j f hf; exact ⟨⟨by omega, this.1.2⟩, this.2⟩⟩
    refine ⟨fun i o hi ho hit hid hd => ?_, (ih A').2⟩
    by_cases hik : i = k
    · subst hik; exact absurd hk hid
    · exact (ih A').1 i o (by omega) ho hit hid hd
  | @tail k a Fl hk _ ih =>
    intro A
    have A' : Agr ops G tl dn gs L b (k + 1) a Fl := ⟨A.size, A.defers, fun t ht => A.a1 t fun j o ho hd => by
      rcases ht j o ho hd with h | h
      · by_cases hjk : j = k
        · subst hjk
          exact .inr (.inl hk)
        · exact .inl ⟨by omega, h.2⟩
      · exact .inr h, fun j f hf => by have := A.a2 j f hf; exact ⟨⟨by omega, this.1.2⟩, this.2⟩⟩
    refine ⟨fun i o hi ho hit hid hd => ?_, (ih A').2⟩
    by_cases hik : i = k
    · subst hik; exact absurd hk hit
    · exact (ih A').1 i o (by omega) ho hit hid hd
  | @skip k a Fl o hk hkd ho hw _ ih =>
    intro A
    have hA : ∀ hd : (∀ e ∈ o.after, Region.binds md e = true → L.getD e.on false = true), Region.wanted o (yielded ops b.tmps) = false := fun hd => by
      rw [look_wanted fun t ht => (A.look T ho hd t ht).symm]
      exact hw
    have A' := A.put T (Fl' := Fl) ho hk hkd undef (fun hL t hd htz => I.sk k o ho hL hkd (hA (I.shut k o ho hL)) t hd htz) (fun j f hf => .inl hf)
    refine ⟨fun i p hi hp hit hid hd => ?_, (ih A').2⟩
    by_cases hik : i = k
    · subst hik
      rw [ho] at hp
      cases hp
      exact .inl (hA hd)
    · exact (ih A').1 i p (by omega) hp hit hid hd
  | @pure k a Fl o v hk hkd ho hG hw hr _ ih =>
    intro A
    have hA : ∀ hd : (∀ e ∈ o.after, Region.binds md e = true → L.getD e.on false = true), Region.wanted o (yielded ops b.tmps) = true := fun hd => by
      rw [look_wanted fun t ht => (A.look T ho hd t ht).symm]
      exact hw
    have hX : ∀ hd : (∀ e ∈ o.after, Region.binds md e = true → L.getD e.on false = true), execOp b.eval o = execOp a.eval o := fun hd => 
      look_exec (fun cs x => Region.noSelect_spec T.sel k o cs x ho) fun t ht => (A.look T ho hd t ht).symm
    have A' := A.put T (Fl' := Fl) ho hk hkd v (fun hL t hd htz => by
      have hs := I.shut k o ho hL
      obtain ⟨w', u, h1, h2, h3, h4⟩ := I.pu k o ho hL hkd hG (hA hs)
      rw [hX hs, hr w' h1 (facts A ho hs w' h2)] at h3
      simp only [Result.ok.injEq, Next.value.injEq, and_true] at h3
      rw [h3]
      exact h4 t hd htz) (fun j f hf => .inl hf)
    refine ⟨fun i p hi hp hit hid hd => ?_, (ih A').2⟩
    by_cases hik : i = k
    · subst hik
      rw [ho] at hp
      cases hp
      exact .inr (.inl ⟨hA hd, hG, v, by rw [hX hd]; exact hr w I.s (facts A ho hd w (now ho hd))⟩)
    · exact (ih A').1 i p (by omega) hp hit hid hd
  | @grow k a Fl o gh hk hkd ho hG hw hr _ ih =>
    intro A
    have hA : ∀ hd : (∀ e ∈ o.after, Region.binds md e = true → L.getD e.on false = true), Region.wanted o (yielded ops b.tmps) = true := fun hd => by
      rw [look_wanted fun t ht => (A.look T ho hd t ht).symm]
      exact hw
    have hX : ∀ hd : (∀ e ∈ o.after, Region.binds md e = true → L.getD e.on false = true), execOp b.eval o = execOp a.eval o := fun hd => 
      look_exec (fun cs x => Region.noSelect_spec T.sel k o cs x ho) fun t ht => (A.look T ho hd t ht).symm
    have A' := A.put T (Fl' := (k, gh.F (gs k)) :: Fl) ho hk hkd (gh.val (gs k)) (fun hL t hd htz => (I.gr k o gh ho hL hkd hG (hA (I.shut k o ho hL))).2 t hd htz) (fun j f hf => by
      rcases List.mem_cons.1 hf with h | h
      · simp only [Prod.mk.injEq] at h
        obtain ⟨rfl, rfl⟩ := h
        exact .inr ⟨rfl, fun hL w' hf' => hf' gh o ho hkd hG (hA (I.shut _ o ho hL))⟩
      · exact .inl h)
    refine ⟨fun i p hi hp hit hid hd => ?_, (ih (gs k) A').2⟩
    by_cases hik : i = k
    · subst hik
      rw [ho] at hp
      cases hp
      refine .inr (.inr ⟨hA hd, gh, hG, ?_⟩)
      have h6 := hr w I.s (facts A ho hd w (now ho hd))
      unfold Oper.wp at *
      rw [hX hd]
      have key : ∀ u g, a.put o.dst u = a.put o.dst (gh.val g) → b.put o.dst u = b.put o.dst (gh.val g) := fun u g hu => by
        cases hdst : o.dst with
        | none => rfl
        | some t =>
          rw [hdst] at hu
          by_cases ht : t < a.tmps.size
          · have h7 := congrArg (fun x : Act => x.tmps[t]?) hu
            simp only [put_get_eq a _ t ht] at h7
            rw [Option.some.inj h7]
          · have hzb : ¬ t < b.tmps.size := by rw [← A.size]; exact ht
            have : ∀ u, b.tmps.setIfInBounds t u = b.tmps := fun u => by rw [Array.setIfInBounds, dif_neg hzb]
            simp only [Act.put]
            rw [this, this]
      generalize (execOp a.eval o).run P w = r at *
      cases r with
      | ok n w' =>
        cases n <;> simp only [Oper.upon] at h6 ⊢
        case value u => obtain ⟨g, h1, h2⟩ := h6; exact ⟨g, key _ _ h1, h2⟩
        case skip => obtain ⟨g, h1, h2⟩ := h6; exact ⟨g, key _ _ h1, h2⟩
        case defer d =>
          exfalso
          obtain ⟨g, h1, h2⟩ := h6
          have h7 := congrArg Act.defers h1
          rw [put_defers, put_defers] at h7
          exact absurd (congrArg List.length h7) (by simp)
        case enter f args =>
          refine Calls.mono h6 fun e w'' he => ?_
          cases e with
          | returned u => obtain ⟨g, h1, h2⟩ := he; exact ⟨g, key _ _ h1, h2⟩
          | panicked c => exact he
          | outgrown => exact he
        case row row args => exact Rows.mono h6 fun u w'' he => by obtain ⟨g, h1, h2⟩ := he; exact ⟨g, key _ _ h1, h2⟩
      | halt x w' =>
        cases x <;> simp only [Oper.upon] at h6 ⊢
        case panic u => exact h6
    · exact (ih (gs k) A').1 i p (by omega) hp hit hid hd
/-- The last part comes in its own order alone. -/
def chainB (md : Region.Mode) (ops : Array Oper) : Array Bool → List Nat → Bool
  | L, [] => (Region.ready md ops L).isEmpty
  | L, i :: r => (Region.ready md ops L == [i]) && (ops[i]?).isSome && chainB md ops (L.setIfInBounds i true) r
theorem chain_any : ∀ (tl : List Nat) (L : Array Bool) (fuel : Nat) (a : Act) (w : World), chainB md ops L tl = true → tl.length ≤ fuel → wpList P ops Q (tl.filterMap (ops[·]?)) a w → wpAny P md ops Q fuel L a w
  | [], L, 0, a, w, hc, _, h => ⟨by simpa [chainB] using hc, h⟩
  | [], L, fuel + 1, a, w, hc, _, h => ⟨fun _ => h, by have : Region.ready md ops L = [] := by simpa [chainB] using hc
                                                       rw [this]; simp⟩
  | i :: r, L, 0, a, w, _, hl, _ => by simp at hl
  | i :: r, L, fuel + 1, a, w, hc, hl, h => by
    simp only [chainB, Bool.and_eq_true, beq_iff_eq] at hc
    obtain ⟨⟨h1, h2⟩, h3⟩ := hc
    obtain ⟨o, ho⟩ := Option.isSome_iff_exists.1 h2
    refine wpAny_all h1 (by simp) fun j hj => ?_
    obtain rfl : j = i := by simpa using hj
    rw [List.filterMap_cons_some ho] at h
    unfold wpOp
    simp only [ho]
    unfold wpList at h
    split
    · next hw =>
      rw [if_pos hw] at h
      exact h.imp (Oper.wp_mono fun a w hh => chain_any r _ fuel a w h3 (by simpa using hl) hh) id
    · next hw =>
      rw [if_neg hw] at h
      exact chain_any r _ fuel _ w h3 (by simpa using hl) h
/-- All but the last part. -/
def butB (n : Nat) (tl : List Nat) : Array Bool := ((List.range n).map fun i => !tl.contains i).toArray
def tailB (md : Region.Mode) (ops : Array Oper) (tl dn : List Nat) : Bool :=
  chainB md ops (butB ops.size tl) tl && tl.all fun t => (List.range ops.size).all fun j => tl.contains j || dn.contains j || needsB md ops t j
theorem wanted_same (T : Tidy md ops) {i : Nat} {o : Oper} (ho : ops[i]? = some o) {L : Array Bool} {b : Act} {k : Nat} {p : Oper} (hp : ops[k]? = some p) (hL : L.getD i false = true) (hLk : L.getD k true = false) (hs : Shut md ops L) (v : Value) :
    ∀ t ∈ o.looksAt ops, (b.put p.dst v).tmps[t]? = b.tmps[t]? := fun t ht => put_get_ne _ _ _ _ fun hd => by
  obtain ⟨e, he, hb, hon⟩ := T.look i o k p t ho hp hd ht
  have h1 := hs i o ho hL e he hb
  rw [hon, getD_eq (n := L.size) rfl (by
    rcases Nat.lt_or_ge k L.size with h' | h'
    · exact h'
    · simp [Array.getElem?_eq_none h'] at hLk), hLk] at h1
  cases h1
theorem listed_ne {L : Array Bool} {i j : Nat} (h1 : L.getD j false = true) (h2 : L.getD i true = false) : j ≠ i := fun e => by
  subst e
  rw [getD_eq (n := L.size) rfl (by
    rcases Nat.lt_or_ge j L.size with h' | h'
    · exact h'
    · simp [Array.getElem?_eq_none h'] at h2), h2] at h1
  cases h1
theorem own_same (T : Tidy md ops) {i : Nat} {o : Oper} (ho : ops[i]? = some o) {b : Act} (v : Value) : ∀ t ∈ o.looksAt ops, (b.put o.dst v).tmps[t]? = b.tmps[t]? := fun t ht => put_get_ne _ _ _ _ fun hd => by
  obtain ⟨e, he, hb, hon⟩ := T.look i o i o t ho ho hd ht
  have := T.less i o ho e he hb
  omega
theorem GInv.next (T : Tidy md ops) (St : Stays S E G) {a0 : Act} {gs gs' : Nat → γ} {L : Array Bool} {b : Act} {w w' : World} (I : GInv P md ops S G tl dn a0 gs L b w) {i : Nat} {o : Oper} (ho : ops[i]? = some o) (hun : L.getD i true = false) (hit : i ∉ tl) (hid : i ∉ dn)
    (hd : ∀ e ∈ o.after, Region.binds md e = true → L.getD e.on false = true) (v : Value) (hE : E w w') (hgs : ∀ j, j ≠ i → gs' j = gs j)
    (hsk : Region.wanted o (yielded ops b.tmps) = false → v = undef)
    (hpu : G i = none → Region.wanted o (yielded ops b.tmps) = true → (execOp b.eval o).run P w = .ok (.value v) w)
    (hgr : ∀ gh, G i = some gh → Region.wanted o (yielded ops b.tmps) = true → v = gh.val (gs' i) ∧ gh.F (gs' i) w') : GInv P md ops S G tl dn a0 gs' (L.setIfInBounds i true) (b.put o.dst v) w' := by
  have hz := (Array.getElem?_eq_some_iff.1 ho).1
  have ne : ∀ j, j ≠ i → (L.setIfInBounds i true).getD j false = true → L.getD j false = true := fun j hj h => by
    rw [getD_set_ne false (Ne.symm hj)] at h
    exact h
  have hw : ∀ j p, ops[j]? = some p → L.getD j false = true → Region.wanted p (yielded ops (b.put o.dst v).tmps) = Region.wanted p (yielded ops b.tmps) := fun j p hp hj =>
    look_wanted (wanted_same T hp ho hj hun I.shut v)
  have hx : ∀ j p, ops[j]? = some p → L.getD j false = true → execOp (b.put o.dst v).eval p = execOp b.eval p := fun j p hp hj =>
    look_exec (fun cs x => Region.noSelect_spec T.sel j p cs x hp) (wanted_same T hp ho hj hun I.shut v)
  have hwo : Region.wanted o (yielded ops (b.put o.dst v).tmps) = Region.wanted o (yielded ops b.tmps) := look_wanted (own_same T ho v)
  have hxo : execOp (b.put o.dst v).eval o = execOp b.eval o := look_exec (fun cs x => Region.noSelect_spec T.sel i o cs x ho) (own_same T ho v)
  have hfo : ∀ j wj, L.getD j false = true → FactOf ops G dn gs b j wj → FactOf ops G dn gs' (b.put o.dst v) j wj := fun j wj hj hf gh p hp hjd hG hwp => by
    rw [hgs j (listed_ne hj hun)]
    exact hf gh p hp hjd hG (by rw [← hw j p hp hj]; exact hwp)
  refine ⟨St.keep _ _ I.s hE, by simp [I.lsize], fun j p hp hj e he hb => ?_, (put_defers _ _ _).trans I.defers, (put_size _ _ _).trans I.size, fun j hj => ?_, fun j hz hj => getD_set_true (I.dnl j hz hj), fun t ht => ?_, fun j p hp hj hjd hwp t ht htz => ?_, fun j p hp hj hjd hG hwp => ?_, fun j p gh hp hj hjd hG hwp => ?_⟩
  · by_cases hij : j = i
    · subst hij
      rw [ho] at hp
      cases hp
      exact getD_set_true (hd e he hb)
    · exact getD_set_true (I.shut j p hp (ne j hij hj) e he hb)
  · by_cases hij : j = i
    · subst hij; exact hit
    · exact I.sub j (ne j hij hj)
  · have h1 : o.dst ≠ some t := ht i o ho (by simp [I.lsize, hz]) hid
    rw [put_get_ne _ _ _ _ h1]
    exact I.old t fun j p hp hj hjd => ht j p hp (getD_set_true hj) hjd
  · rw [put_size] at htz
    by_cases hij : j = i
    · subst hij
      rw [ho] at hp
      cases hp
      rw [hwo] at hwp
      rw [ht, put_get_eq _ _ _ htz, hsk hwp]
    · have hjo := ne j hij hj
      rw [put_get_ne _ _ _ _ (T.dst i o j p t ho hp ht hij)]
      exact I.sk j p hp hjo hjd (by rw [← hw j p hp hjo]; exact hwp) t ht htz
  · by_cases hij : j = i
    · subst hij
      rw [ho] at hp
      cases hp
      rw [hwo] at hwp
      refine ⟨w, v, I.s, fun j' hn => ?_, by rw [hxo]; exact hpu hG hwp, fun t ht htz => ?_⟩
      · have hL : L.getD j' false = true := hn.listed I.shut fun o' ho' e he hb => by
          rw [ho] at ho'
          cases ho'
          exact hd e he hb
        exact hfo j' w hL fun gh p hp' hjd' hG' hwp' => (I.gr j' p gh hp' hL hjd' hG' hwp').1
      · rw [put_size] at htz
        rw [ht, put_get_eq _ _ _ htz]
    · have hjo := ne j hij hj
      rw [hw j p hp hjo] at hwp
      obtain ⟨wj, u, h1, h2, h3, h4⟩ := I.pu j p hp hjo hjd hG hwp
      refine ⟨wj, u, h1, fun j' hn => ?_, by rw [hx j p hp hjo]; exact h3, fun t ht htz => ?_⟩
      · have hL : L.getD j' false = true := hn.listed I.shut fun o' ho' e he hb => by
          rw [hp] at ho'
          cases ho'
          exact I.shut j p hp hjo e he hb
        exact hfo j' wj hL (h2 j' hn)
      · rw [put_size] at htz
        rw [put_get_ne _ _ _ _ (T.dst i o j p t ho hp ht hij)]
        exact h4 t ht htz
  · by_cases hij : j = i
    · subst hij
      rw [ho] at hp
      cases hp
      rw [hwo] at hwp
      obtain ⟨h1, h2⟩ := hgr gh hG hwp
      refine ⟨h2, fun t ht htz => ?_⟩
      rw [put_size] at htz
      rw [ht, put_get_eq _ _ _ htz, h1]
    · have hjo := ne j hij hj
      rw [hw j p hp hjo] at hwp
      obtain ⟨h1, h2⟩ := I.gr j p gh hp hjo hjd hG hwp
      rw [hgs j hij]
      refine ⟨St.fact j gh _ _ _ hG h1 hE, fun t ht htz => ?_⟩
      rw [put_size] at htz
      rw [put_get_ne _ _ _ _ (T.dst i o j p t ho hp ht hij)]
      exact h2 t ht htz
theorem chain_len : ∀ (tl : List Nat) (L : Array Bool), chainB md ops L tl = true → tl.length ≤ left L
  | [], _, _ => Nat.zero_le _
  | i :: r, L, h => by
    simp only [chainB, Bool.and_eq_true, beq_iff_eq] at h
    obtain ⟨⟨h1, h2⟩, h3⟩ := h
    have h4 := chain_len r _ h3
    have h5 := left_set (mem_ready.1 (by rw [h1]; exact List.mem_cons_self)).1
    simp only [List.length_cons]
    omega
theorem tailB_spec (h : tailB md ops tl dn = true) : chainB md ops (butB ops.size tl) tl = true ∧ ∀ t ∈ tl, ∀ j, j < ops.size → j ∉ tl → j ∉ dn → Needs md ops t j := by
  unfold tailB at h
  rw [Bool.and_eq_true, List.all_eq_true] at h
  refine ⟨h.1, fun t ht j hj hjt hjd => ?_⟩
  have h1 := h.2 t ht
  rw [List.all_eq_true] at h1
  have h2 := h1 j (List.mem_range.2 hj)
  rw [Bool.or_eq_true, Bool.or_eq_true] at h2
  rcases h2 with (h2 | h2) | h2
  · exact absurd (by simpa using h2) hjt
  · exact absurd (by simpa using h2) hjd
  · exact needs_of h2
theorem wpG_any (T : Tidy md ops) (St : Stays S E G) (ht : tailB md ops tl dn = true) {a0 : Act} (plan : wpG P md ops Q S E G tl dn 0 a0 []) :
    ∀ (fuel : Nat) (gs : Nat → γ) (L : Array Bool) (b : Act) (w : World), GInv P md ops S G tl dn a0 gs L b w → left L ≤ fuel → wpAny P md ops Q fuel L b w := by
  obtain ⟨hc, hn⟩ := tailB_spec ht
  have agr0 : ∀ (gs : Nat → γ) (L : Array Bool) (b : Act) (w : World), GInv P md ops S G tl dn a0 gs L b w → Agr ops G tl dn gs L b 0 a0 [] := fun gs L b w I =>
    ⟨I.size.symm, I.defers.symm, fun t h => (I.old t fun j o ho hj hjd hd => by
      rcases h j o ho hd with h | h | h
      · omega
      · exact I.sub j hj h
      · exact hjd h).symm, fun j f hf => by cases hf⟩
  have fin : ∀ (fuel : Nat) (gs : Nat → γ) (L : Array Bool) (b : Act) (w : World), GInv P md ops S G tl dn a0 gs L b w → left L ≤ fuel → (∀ i, i < ops.size → i ∉ tl → L.getD i false = true) → wpAny P md ops Q fuel L b w := fun fuel gs L b w I hf hall => by
    have hL : L = butB ops.size tl := by
      apply Array.ext (by simp [butB, I.lsize])
      intro i h1 h2
      have hz : i < ops.size := by rw [← I.lsize]; exact h1
      simp only [butB, List.getElem_toArray, List.getElem_map, List.getElem_range]
      by_cases hi : i ∈ tl
      · have : L.getD i false ≠ true := fun h => I.sub i h hi
        simp [h1] at this
        simp [hi, this]
      · have := hall i hz hi
        simp [h1] at this
        simp [hi, this]
    subst hL
    exact chain_any tl _ fuel b w hc (Nat.le_trans (chain_len tl _ hc) hf) ((wpG_goes T I plan (agr0 gs _ b w I)).2 hall)
  have all_of : ∀ (gs : Nat → γ) (L : Array Bool) (b : Act) (w : World), GInv P md ops S G tl dn a0 gs L b w → Region.ready md ops L = [] → ∀ n i, i < n → i < ops.size → i ∉ tl → L.getD i false = true := fun gs L b w I hr n => by
    induction n with
    | zero => intro i hi; omega
    | succ n ih =>
      intro i hi hz hit
      by_cases hin : i < n
      · exact ih i hin hz hit
      · obtain rfl : i = n := by omega
        cases hL : L.getD i false with
        | true => rfl
        | false =>
          exfalso
          rw [getD_eq I.lsize hz] at hL
          have ho : ops[i]? = some ops[i] := Array.getElem?_eq_getElem hz
          have : i ∈ Region.ready md ops L := mem_ready.2 ⟨hL, _, ho, fun e he hb => by
            have hlt := T.less i _ ho e he hb
            refine ih e.on hlt (by omega) fun hmem => ?_
            have := (hn e.on hmem i hz hit fun hid => by
              have h1 := I.dnl i hz hid
              rw [getD_eq I.lsize hz, hL] at h1
              cases h1).less T
            omega⟩
          rw [hr] at this
          cases this
  have ntl : ∀ (gs : Nat → γ) (L : Array Bool) (b : Act) (w : World), GInv P md ops S G tl dn a0 gs L b w → ∀ (i : Nat) (o : Oper), ops[i]? = some o → (∀ e ∈ o.after, Region.binds md e = true → L.getD e.on false = true) → i ∈ tl → ∀ j, j < ops.size → j ∉ tl → L.getD j false = true := fun gs L b w I i o ho hd hi j hj hjt => by
    by_cases hjd : j ∈ dn
    · exact I.dnl j hj hjd
    · exact (hn i hi j hj hjt hjd).listed I.shut fun o' ho' e he hb => by
        rw [ho] at ho'
        cases ho'
        exact hd e he hb
  intro fuel
  induction fuel with
  | zero =>
    intro gs L b w I hf
    refine fin 0 gs L b w I hf fun i hi hit => ?_
    cases hL : L.getD i false with
    | true => rfl
    | false =>
      exfalso
      rw [getD_eq I.lsize hi] at hL
      have := left_set hL
      omega
  | succ fuel ih =>
    intro gs L b w I hf
    by_cases hall : ∀ i, i < ops.size → i ∉ tl → L.getD i false = true
    · exact fin _ gs L b w I hf hall
    · refine ⟨fun hr => absurd (fun i hi hit => all_of gs L b w I hr (i + 1) i (by omega) hi hit) hall, fun i hi => ?_⟩
      obtain ⟨hun, o, ho, hd⟩ := mem_ready.1 hi
      have hit : i ∉ tl := fun h => hall (ntl gs L b w I i o ho hd h)
      have hid : i ∉ dn := fun h => by
        have hz := (Array.getElem?_eq_some_iff.1 ho).1
        have h1 := I.dnl i hz h
        rw [getD_eq I.lsize hz, hun] at h1
        cases h1
      have hle : left (L.setIfInBounds i true) ≤ fuel := by have := left_set hun; omega
      have hg := (wpG_goes T I plan (agr0 gs L b w I)).1 i o (Nat.zero_le _) ho hit hid hd
      unfold wpOp
      simp only [ho]
      rcases hg with h1 | ⟨h1, hG, v, hr⟩ | ⟨h1, gh, hG, h6⟩
      · rw [if_neg (by rw [h1]; simp)]
        exact ih gs _ _ _ (I.next T St ho hun hit hid hd undef (St.refl _) (fun _ _ => rfl) (fun _ => rfl) (fun _ h => by rw [h1] at h; cases h) (fun _ _ h => by rw [h1] at h; cases h)) hle
      · rw [if_pos h1]
        refine .inl ?_
        unfold Oper.wp
        rw [hr]
        exact ih gs _ _ _ (I.next T St ho hun hit hid hd v (St.refl _) (fun _ _ => rfl) (fun h => by rw [h1] at h; cases h) (fun _ _ => hr) (fun gh' h => by rw [hG] at h; cases h)) hle
      · rw [if_pos h1]
        refine .inl ?_
        have key : ∀ u w', (∃ g, b.put o.dst u = b.put o.dst (gh.val g) ∧ E w w' ∧ gh.F g w') → wpAny P md ops Q fuel (L.setIfInBounds i true) (b.put o.dst u) w' := fun u w' ⟨g, h2, h3, h4⟩ => by
          rw [h2]
          refine ih (fun j => if j = i then g else gs j) _ _ _ (I.next T St ho hun hit hid hd (gh.val g) h3 (fun j hj => by simp [hj]) (fun h => by rw [h1] at h; cases h) (fun h => by rw [hG] at h; cases h) (fun gh' h _ => ?_)) hle
          rw [hG] at h
          cases h
          exact ⟨by simp, by simpa using h4⟩
        unfold Oper.wp at *
        generalize (execOp b.eval o).run P w = r at *
        cases r with
        | ok n w' =>
          cases n <;> simp only [Oper.upon] at h6 ⊢
          case value u => exact key u w' h6
          case skip => exact key undef w' h6
          case defer d =>
            exfalso
            obtain ⟨g, h1, h2⟩ := h6
            have h7 := congrArg Act.defers h1
            rw [put_defers, put_defers] at h7
            exact absurd (congrArg List.length h7) (by simp)
          case enter f args =>
            refine Calls.mono h6 fun e w'' he => ?_
            cases e with
            | returned u => exact key u w'' he
            | panicked c => exact he.elim
            | outgrown => exact (letsQF he).elim
          case row row args => exact Rows.mono h6 fun u w'' he => key u w'' he
        | halt x w' =>
          cases x <;> simp only [Oper.upon] at h6 ⊢
          case panic u => exact h6.elim
/-- The plan, the operations from number k on written out. -/
def wpH (P : Program) (md : Region.Mode) (ops : Array Oper) (Q : Exit → Act → World → Prop) (S : World → Prop) (E : World → World → Prop) (G : Nat → Option (Gh γ)) (tl dn : List Nat) (k : Nat) (rest : List Oper) (a : Act) (Fl : List (Nat × (World → Prop))) : Prop :=
  ops.toList.drop k = rest → wpG P md ops Q S E G tl dn k a Fl
section
variable {k : Nat} {a : Act} {o : Oper} {rest : List Oper} {v : Value} {Fl : List (Nat × (World → Prop))} {gh : Gh γ}
theorem wpH_gone (hk : dn.contains k = true) (h : wpH P md ops Q S E G tl dn (k + 1) rest a Fl) : wpH P md ops Q S E G tl dn k (o :: rest) a Fl := fun hr => .gone (by simpa using hk) (h (drop_at hr).2)
theorem wpH_tail (hk : tl.contains k = true) (h : wpH P md ops Q S E G tl dn (k + 1) rest a Fl) : wpH P md ops Q S E G tl dn k (o :: rest) a Fl := fun hr => .tail (by simpa using hk) (h (drop_at hr).2)
theorem wpH_skip (hk : (tl.contains k || dn.contains k) = false) (hw : Region.wanted o (yielded ops a.tmps) = false) (h : wpH P md ops Q S E G tl dn (k + 1) rest (a.put o.dst undef) Fl) : wpH P md ops Q S E G tl dn k (o :: rest) a Fl := fun hr => by
  rw [Bool.or_eq_false_iff] at hk
  exact .skip (by simpa using hk.1) (by simpa using hk.2) (drop_at hr).1 hw (h (drop_at hr).2)
theorem wpH_val (hk : (tl.contains k || dn.contains k || (G k).isSome) = false) (hw : Region.wanted o (yielded ops a.tmps) = true) (hv : ∀ w, S w → FactL md ops k Fl w → (execOp a.eval o).run P w = .ok (.value v) w)
    (h : wpH P md ops Q S E G tl dn (k + 1) rest (a.put o.dst v) Fl) : wpH P md ops Q S E G tl dn k (o :: rest) a Fl := fun hr => by
  rw [Bool.or_eq_false_iff, Bool.or_eq_false_iff] at hk
  exact .pure (by simpa using hk.1.1) (by simpa using hk.1.2) (drop_at hr).1 (by simpa using hk.2) hw hv (h (drop_at hr).2)
theorem wpH_grow (hk : (tl.contains k || dn.contains k) = false) (hG : G k = some gh) (hw : Region.wanted o (yielded ops a.tmps) = true)
    (hv : ∀ w, S w → FactL md ops k Fl w → ∀ K : Act → World → Prop, (∀ g w', E w w' → gh.F g w' → K (a.put o.dst (gh.val g)) w') → Oper.wp P o a w K QF)
    (h : ∀ g, wpH P md ops Q S E G tl dn (k + 1) rest (a.put o.dst (gh.val g)) ((k, gh.F g) :: Fl)) : wpH P md ops Q S E G tl dn k (o :: rest) a Fl := fun hr => by
  rw [Bool.or_eq_false_iff] at hk
  exact .grow (by simpa using hk.1) (by simpa using hk.2) (drop_at hr).1 hG hw (fun w hS hF => hv w hS hF _ fun g w' h1 h2 => ⟨g, rfl, h1, h2⟩) fun g => h g (drop_at hr).2
theorem wpH_done (h : ∀ w, S w → (∀ j f, (j, f) ∈ Fl → f w) → wpList P ops Q (tl.filterMap (ops[·]?)) a w) : wpH P md ops Q S E G tl dn k [] a Fl :=
  fun h' => .done (by have := congrArg List.length h'; simp at this; omega) h
end
/-- Those of 'dn' are listed, and no others; what they wait for is, too; there is fuel. -/
def doneB (md : Region.Mode) (ops : Array Oper) (tl dn : List Nat) (L : Array Bool) (fuel : Nat) : Bool :=
  L.size == ops.size && (List.range ops.size).all (fun i => L.getD i false == dn.contains i) && dn.all (fun i => !tl.contains i && match ops[i]? with
    | none => false
    | some o => o.after.all fun e => !Region.binds md e || L.getD e.on false) && decide (left L ≤ fuel)
/-- From where those of 'dn' have been taken first. -/
theorem wpAny_g {γ : Type} [Inhabited γ] {rs : List Oper} {a : Act} {w : World} {L : Array Bool} {fuel : Nat} (S : World → Prop) (E : World → World → Prop) (G : Nat → Option (Gh γ)) (tl dn : List Nat) (ht : tidy .any rs.toArray = true) (htl : tailB .any rs.toArray tl dn = true)
    (hdn : doneB .any rs.toArray tl dn L fuel = true) (St : Stays S E G) (hS : S w) (h : wpH P .any rs.toArray Q S E G tl dn 0 rs a []) : wpAny P .any rs.toArray Q fuel L a w := by
  unfold doneB at hdn
  rw [Bool.and_eq_true, Bool.and_eq_true, Bool.and_eq_true, beq_iff_eq, List.all_eq_true, List.all_eq_true, decide_eq_true_eq] at hdn
  obtain ⟨⟨⟨hz, hm⟩, hs⟩, hf⟩ := hdn
  have mem : ∀ i, L.getD i false = true → i < rs.toArray.size ∧ i ∈ dn := fun i hi => by
    have hlt : i < L.size := by
      rcases Nat.lt_or_ge i L.size with h' | h'
      · exact h'
      · simp [Array.getElem?_eq_none h'] at hi
    rw [hz] at hlt
    have h1 := hm i (List.mem_range.2 hlt)
    rw [hi] at h1
    exact ⟨hlt, by simpa using h1⟩
  refine wpG_any (tidy_spec ht) St htl (h (by simp)) _ (fun _ => default) _ _ _ ⟨hS, hz, fun i o ho hl e he hb => ?_, rfl, rfl, fun i hl hit => ?_, fun i hi hd => ?_, fun _ _ => rfl, fun i o ho hl hd => absurd (mem i hl).2 hd, fun i o ho hl hd => absurd (mem i hl).2 hd, fun i o gh ho hl hd => absurd (mem i hl).2 hd⟩ hf
  · have h1 := hs i (mem i hl).2
    rw [ho, Bool.and_eq_true] at h1
    have h2 := Array.all_eq_true_iff_forall_mem.1 h1.2 e he
    simpa [hb] using h2
  · have h1 := hs i (mem i hl).2
    rw [Bool.and_eq_true] at h1
    simp [hit] at h1
  · have h1 := hm i (List.mem_range.2 hi)
    rw [beq_iff_eq] at h1
    rw [h1]
    simpa using hd
end
/-! Ghosts that stay as worlds grow: an address and a number. -/
open Go.RowKit
structure GhB where
  gh : Gh (Option Addr × Nat)
  stab : ∀ g w w', gh.F g w → Below w.heap.size w w' → gh.F g w'
def mkG (l : List (Nat × GhB)) (k : Nat) : Option (Gh (Option Addr × Nat)) := (l.lookup k).map GhB.gh
abbrev Bel (w w' : World) : Prop := Below w.heap.size w w'
theorem stays_mk (W : World) (l : List (Nat × GhB)) : Stays (fun w' => Below W.heap.size W w') Bel (mkG l) :=
  ⟨fun _ _ h k => h.trans (k.mono h.size), fun _ => Below.refl _ _, fun k gh g w w' hG hF hE => by
    unfold mkG at hG
    cases hl : l.lookup k with
    | none => rw [hl] at hG; cases hG
    | some x =>
      rw [hl] at hG
      cases hG
      exact x.stab g w w' hF hE⟩
/-- A call, or another operation, that leaves just this. -/
def gVal (v : Value) : GhB := ⟨⟨fun _ => v, fun _ _ => True⟩, fun _ _ _ _ _ => trivial⟩
/-- An empty row, just made. -/
def gEmpty (B : Nat) (e : TypeId) (size : Nat) : GhB := ⟨⟨fun g => .slice (some ⟨g.2, 0, none⟩) 0 0, fun g w => Own w B e size (some ⟨g.2, 0, none⟩) 0 0 []⟩, fun _ _ _ h hb => h.below hb⟩
/-- A row. -/
def gRow (B : Nat) (e : TypeId) (size n : Nat) (xs : List Value) : GhB := ⟨⟨fun g => .slice g.1 n g.2, fun g w => Own w B e size g.1 n g.2 xs⟩, fun _ _ _ h hb => h.below hb⟩
/-- A slice literal of n elements. -/
def gLit (B : Nat) (t : TypeId) (n : Nat) (cs : Array Value) : GhB := ⟨⟨fun g => .slice (some ⟨g.2, 0, none⟩) n n, fun g w => B ≤ g.2 ∧ Blk w g.2 t cs⟩, fun _ _ _ h hb => ⟨h.1, h.2.below hb⟩⟩
/-- A block, just made. -/
def gPtr (B : Nat) (t : TypeId) (cs : Array Value) : GhB := ⟨⟨fun g => .pointer (some ⟨g.2, 0, none⟩), fun g w => B ≤ g.2 ∧ Blk w g.2 t cs⟩, fun _ _ _ h hb => ⟨h.1, h.2.below hb⟩⟩
section
variable {P : Program} (w : World)
/-- An append to an empty row without room: nothing that stood is written. -/
theorem run_app0 (base : Nat) (t ty e : TypeId) (z : Value) (size bytes : Nat) (ht : P.underlying t = some (.slice e)) (hinfo : (P.info? e).map (fun i => (i.zero, i.size, i.bytes)) = some (some z, size, bytes))
    (hzs : z.cells.size = size) (hsz : 0 < size) (A : Option Addr) (hown : Own w base e size A 0 0 [])
    (B : Nat) (A2 : Option Addr) (m c2 : Nat) (news : List Value) (hl : news.length = m * size) (hr : Rd w B A2 news) (h1 : ∀ u ∈ news, u.oneCell' = true)
    (h63 : m ≤ maxLen) (hbytes : m * bytes ≤ 140737488355328) (hbase : base ≤ w.heap.size) :
    ∃ A' c' w', (Builtin.append_ #[t, t] ty #[.slice A 0 0, .slice A2 m c2]).run P w = .ok (.slice A' m c') w' ∧ Own w' base e size A' m c' news ∧ Below w.heap.size w w' := by
  obtain ⟨A', c', w', h2, h3, h4, -⟩ := run_app (P := P) w base t ty e z size bytes ht hinfo hzs hsz A 0 0 [] hown B A2 m c2 news hl hr h1 (by omega) (by rw [Nat.zero_add]; exact hbytes) hbase
  rw [Nat.zero_add] at h2 h3
  rw [List.nil_append] at h3
  refine ⟨A', c', w', h2, h3, ?_⟩
  obtain ⟨i, hi, hz, hsize, hby⟩ := info_parts hinfo
  subst hsize
  subst hby
  have hsmall : m ≤ 9223372036854775807 := by simp only [maxLen] at h63; omega
  by_cases hm : m = 0
  · subst hm
    have hw : w' = w := by
      have : (Builtin.append_ #[t, t] ty #[.slice A 0 0, .slice A2 0 c2]).run P w = .ok (.slice A 0 0) w := by
        cases A <;> cases A2 <;> simp [Builtin.append_, run_underlying ht, sizeOf, typeInfo, hi, Builtin.lenOf, Builtin.firstCells, loadCells, loadCellsFrom, storeCells]
      rw [this] at h2
      injection h2 with _ h2
      exact h2.symm
    rw [hw]
    exact Below.refl _ _
  · have hne : news ≠ [] := by
      intro h0
      subst h0
      have hp := Nat.mul_pos (Nat.pos_of_ne_zero hm) hsz
      simp only [List.length_nil] at hl
      omega
    obtain ⟨b, o, rfl, _, hc⟩ := hr hne
    have hadd : ∀ (b o j : Nat), (⟨b, o, none⟩ : Addr).add j = ⟨b, o + j, none⟩ := fun b o j => by unfold Addr.add; split <;> simp_all
    have hnews : ∀ j u, news[j]? = some u → w.cell? ((⟨b, o, none⟩ : Addr).add j) = some u := fun j u hu => by rw [hadd]; exact hc j u hu
    cases A with
    | none =>
      have hrr := run_append_nil (P := P) w t ty e i z ht hi hz ⟨b, o, none⟩ m c2 news hl hnews (by omega) (by omega) (by omega)
      rw [hrr] at h2
      injection h2 with _ h2
      rw [← h2]
      exact (Below.refl _ _).drew.alloc (Nat.le_refl _) _
    | some a =>
      have hrr := run_append_grow (P := P) w t ty e i z ht hi hz a 0 0 [] (by simp) (fun j u hu => by simp at hu) ⟨b, o, none⟩ m c2 news hl hnews (by omega) (by omega) (growslice_fits (by omega) (by rw [Nat.zero_add]; exact hbytes))
      rw [Nat.zero_add] at hrr
      rw [hrr] at h2
      injection h2 with _ h2
      rw [← h2]
      exact (Below.refl _ _).drew.alloc (Nat.le_refl _) _
theorem wp_app0 {o : Oper} {a : Act} {K : Act → World → Prop} {Q : Exit → Act → World → Prop} (s x : Operand) (t : TypeId)
    (ho : o.op = .call { callee := .builtin .append, args := #[s, x], argTypes := #[t, t] })
    (base : Nat) (e : TypeId) (z : Value) (size bytes : Nat) (ht : P.underlying t = some (.slice e)) (hinfo : (P.info? e).map (fun i => (i.zero, i.size, i.bytes)) = some (some z, size, bytes))
    (hzs : z.cells.size = size) (hsz : 0 < size) (A : Option Addr) (hs : a.eval s = .slice A 0 0) (hown : Own w base e size A 0 0 [])
    (B : Nat) (A2 : Option Addr) (m c2 : Nat) (news : List Value) (hx : a.eval x = .slice A2 m c2) (hl : news.length = m * size) (hr : Rd w B A2 news) (h1 : ∀ u ∈ news, u.oneCell' = true)
    (h63 : m ≤ maxLen) (hbytes : m * bytes ≤ 140737488355328) (hbase : base ≤ w.heap.size)
    (h : ∀ A' c' w', Own w' base e size A' m c' news → Below w.heap.size w w' → K (a.put o.dst (.slice A' m c')) w') : o.wp P a w K Q := by
  obtain ⟨A', c', w', hrun, h2, h3⟩ := run_app0 (P := P) w base t o.type e z size bytes ht hinfo hzs hsz A hown B A2 m c2 news hl hr h1 h63 hbytes hbase
  unfold Oper.wp execOp
  simp only [ho, resolve, invoke, builtin, Sem.run_bind, Sem.run_pure, Result.andThen_ok, List.map_toArray, List.map_cons, List.map_nil, hs, hx, hrun]
  exact h A' c' w' h2 h3
end
end Go.Proofs.Yteecgdbicokgoaa
