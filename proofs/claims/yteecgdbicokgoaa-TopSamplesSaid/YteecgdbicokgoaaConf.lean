/- A region that draws its order, in which what each operation leaves does not hang on the order: each is looked at once. -/
import Derived.Orders
import Derived.OrdersHeld
import Derived.Deep.RegionHeld
namespace Go.Proofs.Yteecgdbicokgoaa
set_option linter.unusedVariables false
set_option linter.unusedSimpArgs false
section
/-- No way out but the normal one. -/
def QF : Exit → Act → World → Prop := fun _ _ _ => False
theorem letsQF : ¬ LetsOut QF := fun ⟨_, _, h⟩ => h
/-- All that an operation looks at is from ahead of the region, or of an operation that it waits for; it waits for lesser ones only; temporaries are apart. -/
def tidy (md : Region.Mode) (ops : Array Oper) : Bool :=
  Region.noSelect ops && (List.range ops.size).all fun i => match ops[i]? with
    | none => true
    | some o => o.after.all (fun e => !Region.binds md e || decide (e.on < i)) &&
      (List.range ops.size).all fun j => match ops[j]? with
        | none => true
        | some p => match p.dst with
          | none => true
          | some t => (j == i || o.dst != some t) && (!(o.looksAt ops).contains t || o.after.any (fun e => Region.binds md e && e.on == j))
variable {P : Program} {md : Region.Mode} {ops : Array Oper} {Q : Exit → Act → World → Prop} {S : Array Bool → World → Prop}
structure Tidy (md : Region.Mode) (ops : Array Oper) : Prop where
  sel : Region.noSelect ops = true
  less : ∀ (i : Nat) (o : Oper), ops[i]? = some o → ∀ e ∈ o.after, Region.binds md e = true → e.on < i
  dst : ∀ (i : Nat) (o : Oper) (j : Nat) (p : Oper) (t : Tmp), ops[i]? = some o → ops[j]? = some p → p.dst = some t → j ≠ i → o.dst ≠ some t
  look : ∀ (i : Nat) (o : Oper) (j : Nat) (p : Oper) (t : Tmp), ops[i]? = some o → ops[j]? = some p → p.dst = some t → t ∈ o.looksAt ops → ∃ e ∈ o.after, Region.binds md e = true ∧ e.on = j
theorem tidy_spec (h : tidy md ops = true) : Tidy md ops := by
  unfold tidy at h
  rw [Bool.and_eq_true, List.all_eq_true] at h
  obtain ⟨h0, h⟩ := h
  have hi : ∀ {i o}, ops[i]? = some o → i ∈ List.range ops.size := fun h => List.mem_range.2 (Array.getElem?_eq_some_iff.1 h).1
  refine ⟨h0, fun i o ho e he hb => ?_, fun i o j p t ho hp ht hne hd => ?_, fun i o j p t ho hp ht hm => ?_⟩
  · have h1 := h i (hi ho)
    simp only [ho, Bool.and_eq_true] at h1
    have h2 := Array.all_eq_true_iff_forall_mem.1 h1.1 e he
    simpa [hb] using h2
  · have h1 := h i (hi ho)
    simp only [ho, Bool.and_eq_true, List.all_eq_true] at h1
    have h2 := h1.2 j (hi hp)
    simp only [hp, ht, Bool.and_eq_true, Bool.or_eq_true] at h2
    rcases h2.1 with h3 | h3
    · exact hne (by simpa using h3)
    · rw [hd] at h3; simp at h3
  · have h1 := h i (hi ho)
    simp only [ho, Bool.and_eq_true, List.all_eq_true] at h1
    have h2 := h1.2 j (hi hp)
    simp only [hp, ht, Bool.and_eq_true, Bool.or_eq_true] at h2
    rcases h2.2 with h3 | h3
    · simp [hm] at h3
    · obtain ⟨e, he, hb⟩ := Array.any_eq_true'.1 h3
      simp only [Bool.and_eq_true, beq_iff_eq] at hb
      exact ⟨e, he, hb⟩
/-- What is listed has all that it waits for listed. -/
def Shut (md : Region.Mode) (ops : Array Oper) (L : Array Bool) : Prop := ∀ i o, ops[i]? = some o → L.getD i false = true → ∀ e ∈ o.after, Region.binds md e = true → L.getD e.on false = true
/-- In state 'a' this operation, in whatever order it comes, leaves 'v'. -/
def Does (P : Program) (md : Region.Mode) (ops : Array Oper) (S : Array Bool → World → Prop) (i : Nat) (o : Oper) (v : Value) (a : Act) : Prop :=
  (Region.wanted o (yielded ops a.tmps) = true ∧ ∀ L w, S L w → L.getD i true = false → Shut md ops L → (∀ e ∈ o.after, Region.binds md e = true → L.getD e.on false = true) → Oper.wp P o a w (fun a' w' => a' = a.put o.dst v ∧ S (L.setIfInBounds i true) w') QF) ∨
  (Region.wanted o (yielded ops a.tmps) = false ∧ v = undef ∧ ∀ L w, S L w → L.getD i true = false → Shut md ops L → (∀ e ∈ o.after, Region.binds md e = true → L.getD e.on false = true) → S (L.setIfInBounds i true) w)
inductive wpC (P : Program) (md : Region.Mode) (ops : Array Oper) (Q : Exit → Act → World → Prop) (S : Array Bool → World → Prop) : Nat → Act → Prop
  | done {k : Nat} {a : Act} : ops.size ≤ k → (∀ w, S (Array.replicate ops.size true) w → Q .normal a w) → wpC P md ops Q S k a
  | cons {k : Nat} {a : Act} {o : Oper} {v : Value} : ops[k]? = some o → Does P md ops S k o v a → wpC P md ops Q S (k + 1) (a.put o.dst v) → wpC P md ops Q S k a

theorem put_size (a : Act) (d : Option Tmp) (v : Value) : (a.put d v).tmps.size = a.tmps.size := by
  cases d <;> simp [Act.put]
theorem put_get_ne (a : Act) (d : Option Tmp) (v : Value) (t : Tmp) (h : d ≠ some t) : (a.put d v).tmps[t]? = a.tmps[t]? := by
  cases d with
  | none => rfl
  | some x => exact Array.getElem?_setIfInBounds_ne (fun e => h (by rw [e]))
theorem put_get_eq (a : Act) (v : Value) (t : Tmp) (h : t < a.tmps.size) : (a.put (some t) v).tmps[t]? = some v := by
  simp [Act.put, h]
theorem put_defers (a : Act) (d : Option Tmp) (v : Value) : (a.put d v).defers = a.defers := by cases d <;> rfl
theorem look_wanted {o : Oper} {a b : Act} (h : ∀ t ∈ o.looksAt ops, b.tmps[t]? = a.tmps[t]?) : Region.wanted o (yielded ops b.tmps) = Region.wanted o (yielded ops a.tmps) := by
  unfold Region.wanted
  cases hg : o.guard with
  | none => rfl
  | some gw =>
    obtain ⟨g, want⟩ := gw
    have hy : yielded ops b.tmps g = yielded ops a.tmps g := by
      unfold yielded
      cases ht : (ops[g]?).bind (·.dst) with
      | none => rfl
      | some t =>
        have := h t (by simp [Oper.looksAt, hg, ht])
        simp only [Option.bind_some, this]
    simp only [hy]
theorem look_exec {o : Oper} {a b : Act} (hs : ∀ cs x, o.op ≠ .select cs x) (h : ∀ t ∈ o.looksAt ops, b.tmps[t]? = a.tmps[t]?) : execOp b.eval o = execOp a.eval o :=
  execOp_congr o hs fun x hx => by
    cases x with
    | tmp t =>
      have := h t (List.mem_append_left _ (List.mem_filterMap.2 ⟨.tmp t, by simpa using hx, rfl⟩))
      simp [Act.eval, this]
    | _ => rfl
theorem Does.carry {i : Nat} {o : Oper} {v : Value} {a b : Act} (hs : ∀ cs x, o.op ≠ .select cs x) (hz : b.tmps.size = a.tmps.size) (h : ∀ t ∈ o.looksAt ops, b.tmps[t]? = a.tmps[t]?) (hd : Does P md ops S i o v a) : Does P md ops S i o v b := by
  unfold Does at *
  rw [look_wanted h]
  refine hd.imp (fun ⟨h1, h2⟩ => ⟨h1, fun L w h3 h4 h5 hd => ?_⟩) id
  have h6 := h2 L w h3 h4 h5 hd
  unfold Oper.wp at *
  rw [look_exec hs h]
  generalize (execOp a.eval o).run P w = r at *
  have key : ∀ u, a.put o.dst u = a.put o.dst v → b.put o.dst u = b.put o.dst v := fun u hu => by
    cases hdst : o.dst with
    | none => rfl
    | some t =>
      rw [hdst] at hu
      by_cases ht : t < a.tmps.size
      · have h7 := congrArg (fun x : Act => x.tmps[t]?) hu
        simp only [put_get_eq a _ t ht] at h7
        rw [Option.some.inj h7]
      · simp only [Act.put]
        have hzb : ¬ t < b.tmps.size := by rw [hz]; exact ht
        have : ∀ u, b.tmps.setIfInBounds t u = b.tmps := fun u => by rw [Array.setIfInBounds, dif_neg hzb]
        rw [this, this]
  cases r with
  | ok n w' =>
    cases n <;> simp only [Oper.upon] at h6 ⊢
    case value u => exact ⟨key _ h6.1, h6.2⟩
    case skip => exact ⟨key _ h6.1, h6.2⟩
    case defer d =>
      exfalso
      have h7 := congrArg Act.defers h6.1
      rw [put_defers, put_defers] at h7
      exact absurd (congrArg List.length h7) (by simp)
    case enter f args =>
      refine Calls.mono h6 fun e w'' he => ?_
      cases e with
      | returned u => exact ⟨key _ he.1, he.2⟩
      | panicked c => exact he
      | outgrown => exact he
    case row row args => exact Rows.mono h6 fun u w'' he => ⟨key _ he.1, he.2⟩
  | halt x w' =>
    cases x <;> simp only [Oper.upon] at h6 ⊢
    case panic u => exact h6
structure Out (P : Program) (md : Region.Mode) (ops : Array Oper) (Q : Exit → Act → World → Prop) (S : Array Bool → World → Prop) (k : Nat) (a aF : Act) : Prop where
  fin : ∀ w, S (Array.replicate ops.size true) w → Q .normal aF w
  defers : aF.defers = a.defers
  size : aF.tmps.size = a.tmps.size
  old : ∀ t, (∀ j o, k ≤ j → ops[j]? = some o → o.dst ≠ some t) → aF.tmps[t]? = a.tmps[t]?
  does : ∀ i o, k ≤ i → ops[i]? = some o → ∃ v, Does P md ops S i o v aF ∧ ∀ t, o.dst = some t → t < aF.tmps.size → aF.tmps[t]? = some v
theorem wpC.out (T : Tidy md ops) {k : Nat} {a : Act} (h : wpC P md ops Q S k a) : ∃ aF, Out P md ops Q S k a aF := by
  induction h with
  | done hk h =>
    refine ⟨_, h, rfl, rfl, fun _ _ => rfl, fun i o hi ho => ?_⟩
    have := (Array.getElem?_eq_some_iff.1 ho).1
    omega
  | @cons k a o v ho hd _ ih =>
    obtain ⟨aF, F⟩ := ih
    have old : ∀ t, (∀ j o, k ≤ j → ops[j]? = some o → o.dst ≠ some t) → aF.tmps[t]? = a.tmps[t]? := fun t ht => by
      rw [F.old t (fun j o hj => ht j o (by omega)), put_get_ne _ _ _ _ (ht k o (Nat.le_refl _) ho)]
    refine ⟨aF, F.fin, F.defers.trans (put_defers _ _ _), F.size.trans (put_size _ _ _), old, fun i p hi hp => ?_⟩
    by_cases hik : i = k
    · subst hik
      rw [ho] at hp
      cases hp
      refine ⟨v, hd.carry (fun cs x => Region.noSelect_spec T.sel i o cs x ho) (F.size.trans (put_size _ _ _)) (fun t ht => old t fun j q hj hq hd' => ?_), fun t ht hz => ?_⟩
      · obtain ⟨e, he, hb, hon⟩ := T.look i o j q t ho hq hd' ht
        have := T.less i o ho e he hb
        omega
      · rw [F.old t (fun j q hj hq hd' => T.dst j q i o t hq ho ht (by omega) hd'), ht]
        exact put_get_eq _ _ _ (by rw [← put_size a o.dst v, ← F.size]; exact hz)
    · exact F.does i p (by omega) hp

/-- How many are not listed. -/
def left (L : Array Bool) : Nat := L.toList.countP (fun b => !b)
theorem left_set {L : Array Bool} {i : Nat} (h : L.getD i true = false) : left (L.setIfInBounds i true) + 1 = left L := by
  unfold left
  have hi : i < L.size := by
    rcases Nat.lt_or_ge i L.size with h' | h'
    · exact h'
    · simp [Array.getElem?_eq_none h'] at h
  have hv : L.toList[i]'(by simpa using hi) = false := by simpa [hi] using h
  rw [Array.toList_setIfInBounds]
  have h1 : L.toList = L.toList.take i ++ false :: L.toList.drop (i + 1) := by
    rw [← hv, List.getElem_cons_drop, List.take_append_drop]
  have h2 : L.toList.set i true = L.toList.take i ++ true :: L.toList.drop (i + 1) := by
    rw [List.set_eq_take_append_cons_drop, if_pos (by simpa using hi)]
  rw [h2]
  conv => rhs; rw [h1]
  simp only [List.countP_append, List.countP_cons]
  simp
  omega
structure Inv (md : Region.Mode) (ops : Array Oper) (S : Array Bool → World → Prop) (aF : Act) (L : Array Bool) (a : Act) (w : World) : Prop where
  s : S L w
  lsize : L.size = ops.size
  shut : Shut md ops L
  defers : a.defers = aF.defers
  size : a.tmps.size = aF.tmps.size
  old : ∀ t, (∀ j o, ops[j]? = some o → L.getD j false = false → o.dst ≠ some t) → a.tmps[t]? = aF.tmps[t]?
theorem getD_eq {L : Array Bool} {n i : Nat} (hz : L.size = n) (hi : i < n) : L.getD i false = L.getD i true := by
  simp [hz, hi]
theorem wpC_any (T : Tidy md ops) {a0 aF : Act} (F : Out P md ops Q S 0 a0 aF) : ∀ (fuel : Nat) (L : Array Bool) (a : Act) (w : World), Inv md ops S aF L a w → left L ≤ fuel → wpAny P md ops Q fuel L a w := by
  have fin : ∀ (L : Array Bool) (a : Act) (w : World), Inv md ops S aF L a w → Region.ready md ops L = [] → Q .normal a w := fun L a w I hr => by
    have hall : ∀ n i, i < n → i < ops.size → L.getD i true = true := fun n => by
      induction n with
      | zero => intro i hi; omega
      | succ n ih =>
        intro i hi hz
        by_cases hin : i < n
        · exact ih i hin hz
        · obtain rfl : i = n := by omega
          cases hL : L.getD i true with
          | true => rfl
          | false =>
            exfalso
            have ho : ops[i]? = some ops[i] := Array.getElem?_eq_getElem hz
            have : i ∈ Region.ready md ops L := mem_ready.2 ⟨hL, _, ho, fun e he hb => by
              have hlt := T.less i _ ho e he hb
              rw [getD_eq I.lsize (by omega)]
              exact ih e.on hlt (by omega)⟩
            rw [hr] at this
            cases this
    have hL : L = Array.replicate ops.size true := by
      apply Array.ext (by simp [I.lsize])
      intro i h1 h2
      have := hall (i + 1) i (by omega) (by rw [← I.lsize]; exact h1)
      simpa [h1] using this
    have ha : a = aF := by
      have ht : a.tmps = aF.tmps := Array.ext_getElem? fun t => I.old t fun j o ho hj => by
        exfalso
        have hz := (Array.getElem?_eq_some_iff.1 ho).1
        rw [getD_eq I.lsize hz, hall (j + 1) j (by omega) hz] at hj
        cases hj
      obtain ⟨x, y⟩ := a
      obtain ⟨x', y'⟩ := aF
      obtain rfl : x = x' := ht
      obtain rfl : y = y' := I.defers
      rfl
    subst ha
    exact F.fin w (hL ▸ I.s)
  intro fuel
  induction fuel with
  | zero =>
    intro L a w I hf
    have hr : Region.ready md ops L = [] := by
      cases hr : Region.ready md ops L with
      | nil => rfl
      | cons i rs =>
        have := left_set (mem_ready.1 (by rw [hr]; exact List.mem_cons_self)).1
        omega
    exact ⟨hr, fin L a w I hr⟩
  | succ fuel ih =>
    intro L a w I hf
    refine ⟨fin L a w I, fun i hi => ?_⟩
    obtain ⟨hun, o, ho, hall⟩ := mem_ready.1 hi
    have hz := (Array.getElem?_eq_some_iff.1 ho).1
    obtain ⟨v, hd, hv⟩ := F.does i o (Nat.zero_le _) ho
    have hda := hd.carry (b := a) (fun cs x => Region.noSelect_spec T.sel i o cs x ho) I.size (fun t ht => I.old t fun j p hp hj hdst => by
      obtain ⟨e, he, hb, hon⟩ := T.look i o j p t ho hp hdst ht
      have := hall e he hb
      rw [hon, hj] at this
      cases this)
    have hiset : (L.setIfInBounds i true).getD i false = true := by simp [I.lsize, hz]
    have next : ∀ w', S (L.setIfInBounds i true) w' → wpAny P md ops Q fuel (L.setIfInBounds i true) (a.put o.dst v) w' := fun w' hS => by
      refine ih _ _ _ ⟨hS, by simp [I.lsize], fun j p hp hj e he hb => ?_, (put_defers _ _ _).trans I.defers, (put_size _ _ _).trans I.size, fun t ht => ?_⟩ (by have := left_set hun; omega)
      · by_cases hij : i = j
        · subst hij
          rw [ho] at hp
          cases hp
          exact getD_set_true (hall e he hb)
        · rw [getD_set_ne false hij] at hj
          exact getD_set_true (I.shut j p hp hj e he hb)
      · by_cases hdt : o.dst = some t
        · by_cases htz : t < a.tmps.size
          · rw [hdt, put_get_eq _ _ _ htz, hv t hdt (by rw [← I.size]; exact htz)]
          · have hta := Nat.le_of_not_lt htz
            rw [Array.getElem?_eq_none (by rw [put_size]; exact hta), Array.getElem?_eq_none (by rw [← I.size]; exact hta)]
        · rw [put_get_ne _ _ _ _ hdt]
          refine I.old t fun j p hp hj => ?_
          by_cases hij : i = j
          · subst hij
            rw [ho] at hp
            cases hp
            exact hdt
          · exact ht j p hp (by rw [getD_set_ne false hij]; exact hj)
    unfold wpOp
    simp only [ho]
    rcases hda with ⟨h1, h2⟩ | ⟨h1, rfl, h2⟩
    · rw [if_pos h1]
      refine .inl ?_
      have h3 := h2 L w I.s hun I.shut hall
      unfold Oper.wp at *
      generalize (execOp a.eval o).run P w = r at *
      cases r with
      | ok n w' =>
        cases n <;> simp only [Oper.upon] at h3 ⊢
        case value u => rw [h3.1]; exact next _ h3.2
        case skip => rw [h3.1]; exact next _ h3.2
        case defer d => rw [h3.1]; exact next _ h3.2
        case enter f args =>
          refine Calls.mono h3 fun e w'' he => ?_
          cases e with
          | returned u => dsimp only at he ⊢; rw [he.1]; exact next _ he.2
          | panicked c => exact he.elim
          | outgrown => exact (letsQF he).elim
        case row row args => exact Rows.mono h3 fun u w'' he => by rw [he.1]; exact next _ he.2
      | halt x w' =>
        cases x <;> simp only [Oper.upon] at h3 ⊢
        case panic u => exact h3.elim
    · rw [if_neg (by rw [h1]; simp)]
      exact next _ (h2 L w I.s hun I.shut hall)
/-- A region that draws its order, each operation looked at once. -/
theorem wp_region_conf {id : Nat} {a : Act} {w : World} (S : Array Bool → World → Prop) (hm : P.follows .mixedOrders = true) (ht : tidy .any ops = true)
    (hS : S (Array.replicate ops.size false) w.drew) (h : wpC P .any ops Q S 0 a) : (Code.region id ops true).wp P Q a w := by
  obtain ⟨aF, F⟩ := h.out (tidy_spec ht)
  refine wp_region_any hm (wpC_any (tidy_spec ht) F _ _ _ _ ⟨hS, by simp, fun i o ho hl => ?_, F.defers.symm, F.size.symm, fun t htt => ?_⟩ ?_)
  · simp at hl
    rcases Nat.lt_or_ge i ops.size with h' | h'
    · simp [h'] at hl
    · simp [Array.getElem?_eq_none h'] at ho
  · exact (F.old t fun j o _ ho => htt j o ho (by simp [Array.getElem?_replicate]; split <;> rfl)).symm
  · unfold left
    refine Nat.le_trans List.countP_le_length ?_
    simp
/-- The operations from number k on, written out. -/
def wpL (P : Program) (md : Region.Mode) (ops : Array Oper) (Q : Exit → Act → World → Prop) (S : Array Bool → World → Prop) (k : Nat) (rest : List Oper) (a : Act) : Prop :=
  ops.toList.drop k = rest → wpC P md ops Q S k a
theorem drop_at {k : Nat} {o : Oper} {rest : List Oper} (h : ops.toList.drop k = o :: rest) : ops[k]? = some o ∧ ops.toList.drop (k + 1) = rest := by
  refine ⟨?_, ?_⟩
  · have := congrArg (fun l : List Oper => l[0]?) h
    simpa [List.getElem?_drop] using this
  · rw [← List.drop_drop, h]
    rfl
theorem wpL_cons {k : Nat} {o : Oper} {rest : List Oper} {a : Act} {v : Value} (hd : Does P md ops S k o v a) (hn : wpL P md ops Q S (k + 1) rest (a.put o.dst v)) : wpL P md ops Q S k (o :: rest) a :=
  fun h => .cons (drop_at h).1 hd (hn (drop_at h).2)
theorem wpL_end {k : Nat} {a : Act} (h : ∀ w, S (Array.replicate ops.size true) w → Q .normal a w) : wpL P md ops Q S k [] a :=
  fun h' => .done (by have := congrArg List.length h'; simp at this; omega) h
/-! The moves of a walk, where S does not hang on what is listed. -/
section
variable {S : World → Prop} {k : Nat} {a : Act} {o : Oper} {rest : List Oper} {v : Value}
theorem wpL_val (hw : Region.wanted o (yielded ops a.tmps) = true) (h : ∀ w, S w → (execOp a.eval o).run P w = .ok (.value v) w)
    (hn : wpL P md ops Q (fun _ => S) (k + 1) rest (a.put o.dst v)) : wpL P md ops Q (fun _ => S) k (o :: rest) a :=
  wpL_cons (.inl ⟨hw, fun L w hS _ _ _ => by unfold Oper.wp; rw [h w hS]; exact ⟨rfl, hS⟩⟩) hn
theorem wpL_skip (hw : Region.wanted o (yielded ops a.tmps) = false) (hn : wpL P md ops Q (fun _ => S) (k + 1) rest (a.put o.dst undef)) : wpL P md ops Q (fun _ => S) k (o :: rest) a :=
  wpL_cons (.inr ⟨hw, rfl, fun L w hS _ _ _ => hS⟩) hn
theorem wpL_call {f : FuncId} {args : Array Value} (hw : Region.wanted o (yielded ops a.tmps) = true) (h : ∀ w, S w → (execOp a.eval o).run P w = .ok (.enter f args) w)
    (hc : ∀ w, S w → Calls P f args w fun e w' => e = .returned v ∧ S w') (hn : wpL P md ops Q (fun _ => S) (k + 1) rest (a.put o.dst v)) : wpL P md ops Q (fun _ => S) k (o :: rest) a :=
  wpL_cons (.inl ⟨hw, fun L w hS _ _ _ => by
    unfold Oper.wp
    rw [h w hS]
    exact (hc w hS).mono fun e w' ⟨he, h'⟩ => by subst he; exact ⟨rfl, h'⟩⟩) hn
theorem wpL_done (h : ∀ w, S w → Q .normal a w) : wpL P md ops Q (fun _ => S) k [] a := wpL_end h
end
/-- As wp_region_conf, S the same all along. -/
theorem wp_region_c {id : Nat} {rs : List Oper} {a : Act} {w : World} (S : World → Prop) (hm : P.follows .mixedOrders = true) (ht : tidy .any rs.toArray = true)
    (hS : S w.drew) (h : wpL P .any rs.toArray Q (fun _ => S) 0 rs a) : (Code.region id rs.toArray true).wp P Q a w := wp_region_conf (fun _ => S) hm ht hS (h (by simp))
end
end Go.Proofs.Yteecgdbicokgoaa
