/- TopSamples: what the law holds, and how it stays. TopSamples: a sample is put, or lost. TopSamples: what the law holds while it gathers. -/
import Derived.Test.YteecgdbicokgoaaT2
import Derived.Test.YteecgdbicokgoaaT8
import Derived.Test.YteecgdbicokgoaaA1
import Derived.Test.YteecgdbicokgoaaA2
import Derived.Test.YteecgdbicokgoaaA4
namespace Go.Proofs.Yteecgdbicokgoaa
open Go.RowKit
set_option linter.unusedVariables false
set_option linter.unusedSimpArgs false
set_option maxRecDepth 100000
/-- Of the blocks from T on only those of the types ts are of F. -/
def FT (w : World) (T : Nat) (F : Nat → Prop) (ts : List TypeId) : Prop := ∀ i, F i → i < w.heap.size → i < T ∨ ∃ t cs, Blk w i t cs ∧ t ∈ ts
section
variable {w w' : World} {T : Nat} {F : Nat → Prop} {ts : List TypeId}
theorem Blk.ft {g : Nat} {t : TypeId} {cs : Array Value} (h : Blk w g t cs) (hc : Chg F w w') (hF : FT w T F ts) (ht : t ∉ ts) (hg : T ≤ g) : Blk w' g t cs :=
  h.chg hc fun hx => by
    rcases hF g hx h.lt with h1 | ⟨t', cs', h1, h2⟩
    · omega
    · rw [blk_ty h h1] at ht; exact ht h2
theorem Own.ft {base : Nat} {e : TypeId} {size n k : Nat} {A : Option Addr} {xs : List Value} (h : Own w base e size A n k xs) (hc : Chg F w w') (hF : FT w T F ts) (ht : e ∉ ts) (hb : T ≤ base) : Own w' base e size A n k xs :=
  h.chg hc fun g hg hx => by
    obtain ⟨cs, hcs⟩ := h.row hg
    rcases hF g hx hcs.lt with h1 | ⟨t', cs', h1, h2⟩
    · have := (h.lt hg).1; omega
    · rw [blk_ty hcs h1] at ht; exact ht h2
theorem FAt.ft {f : Nat} (h : FAt w f) (hc : Chg F w w') (hF : FT w T F ts) (ht : (130 : TypeId) ∉ ts) (hg : T ≤ f) : FAt w' f := by
  obtain ⟨z0, z1, z2, z3, hB⟩ := h
  exact ⟨z0, z1, z2, z3, hB.ft hc hF ht hg⟩
theorem Qat.ft {q : Nat} {A : Option Addr} {c : Nat} {s : Qs} (h : Qat w T q A c s) (hc : Chg F w w') (hF : FT w T F ts) (h1 : (127 : TypeId) ∉ ts) (h2 : (82 : TypeId) ∉ ts) (h3 : (5 : TypeId) ∉ ts) (hq : T ≤ q) : Qat w' T q A c s :=
  ⟨h.blk.ft hc hF h1 hq, h.own.ft hc hF h2 (Nat.le_refl _), fun t ht => ⟨(h.its t ht).1, (h.its t ht).2.1, (h.its t ht).2.2.ft hc hF h3 (Nat.le_refl _)⟩, h.four⟩
theorem GAt.ft {g : Nat} {cl : List Lc} {os : List Og} (h : GAt w T g cl os) (hc : Chg F w w') (hF : FT w T F ts) (h1 : (134 : TypeId) ∉ ts) (h2 : (138 : TypeId) ∉ ts) (h3 : (22 : TypeId) ∉ ts) (h4 : (5 : TypeId) ∉ ts) : GAt w' T g cl os :=
  h.chF hc fun i hi hl => by
    rcases hF i hi hl with h5 | ⟨t, cs, h5, h6⟩
    · exact .inl h5
    · exact .inr ⟨t, cs, h5, fun e => h1 (e ▸ h6), fun e => h2 (e ▸ h6), fun e => h3 (e ▸ h6), fun e => h4 (e ▸ h6)⟩
theorem MAt.ft {L m : Nat} {M : Mx} (h : MAt w L T m M) (hc : Chg F w w') (hF : ∀ i, F i → T ≤ i) : MAt w' L T m M :=
  h.kept hc.size fun g _ h2 => hc.block g (by have := h.tz; omega) fun hx => by have := hF g hx; omega
theorem FT.one {g : Nat} {t : TypeId} {cs : Array Value} (h : Blk w g t cs) : FT w T (fun i => i = g) [t] := fun i hi _ => .inr ⟨t, cs, by rw [hi]; exact h, by simp⟩
end
/-- A sample as it lies. -/
structure Sa where
  k : Nat
  lost : Bool
  A : Option Addr
  c : Nat
  l : List Bz
abbrev Sa.cs (s : Sa) : List Value := [.int .i64 s.k, .bool s.lost, .slice s.A s.l.length s.c]
abbrev sacells (l : List Sa) : List Value := flatC Sa.cs l
def Sa.bs (s : Sa) : List (List Int) := s.l.map Bz.bs
def SmAt (w : World) (base : Nat) (s : Sa) : Prop := Own w base 22 1 s.A s.l.length s.c (s.l.map Bz.v) ∧ ∀ b ∈ s.l, BzAt w base b
theorem SmAt.ft {w w' : World} {T : Nat} {F : Nat → Prop} {ts : List TypeId} {s : Sa} (h : SmAt w T s) (hc : Chg F w w') (hF : FT w T F ts) (h1 : (22 : TypeId) ∉ ts) (h2 : (5 : TypeId) ∉ ts) : SmAt w' T s :=
  ⟨h.1.ft hc hF h1 (Nat.le_refl _), fun b hb => (h.2 b hb).ft hc hF h2 (Nat.le_refl _)⟩
theorem sacells_snoc (l : List Sa) (x : Sa) : sacells (l ++ [x]) = sacells l ++ x.cs := by
  unfold sacells
  rw [flatC_app]
  simp [flatC]
theorem sacells_len (l : List Sa) : (sacells l).length = l.length * 3 := flatC_len Sa.cs 3 l (fun _ _ => rfl)
theorem sacells_at {l : List Sa} {k : Nat} {t : Sa} (h : l[k]? = some t) {j : Nat} {u : Value} (hu : t.cs[j]? = some u) : (sacells l)[k * 3 + j]? = some u := flatC_at Sa.cs 3 l (fun _ _ => rfl) k t h j u hu
theorem info73 : (Try.prog.info? 73).map (fun i => (i.zero, i.size, i.bytes)) = some (some (.agg #[.int .i64 0, .bool false, .slice none 0 0]), 3, 40) := by kernel_rfl
/-- The packets of a sample of the list whose first table has the number f. -/
def pkS (f : Nat) (lost : Bool) (bs : List (List Int)) : List (Int × Int × List Int) := bumpK lost ((List.range bs.length).map fun i => (4, ((f + i : Nat) : Int), bs.getD i []))
def Sa.pk (cl : List Lc) (s : Sa) : List (Int × Int × List Int) := pkS (fT cl s.k) s.lost s.bs
theorem bumpK_len (b : Bool) (l : List (Int × Int × List Int)) : (bumpK b l).length = l.length := by
  cases l with
  | nil => rfl
  | cons x l => obtain ⟨a, c, d⟩ := x; cases b <;> rfl
theorem pkS_len (f : Nat) (lost : Bool) (bs : List (List Int)) : (pkS f lost bs).length = bs.length := by unfold pkS; rw [bumpK_len]; simp
theorem pkS_at {f : Nat} {lost : Bool} {bs : List (List Int)} {i : Nat} {b : List Int} (h : bs[i]? = some b) : (pkS f lost bs)[i]? = some (4, ((f + i : Nat) : Int) + (if (decide (i = 0) && lost) = true then 64 else 0), b) := by
  have hi := (List.getElem?_eq_some_iff.1 h).1
  have hm : ((List.range bs.length).map fun i => ((4 : Int), ((f + i : Nat) : Int), bs.getD i []))[i]? = some (4, ((f + i : Nat) : Int), b) := by
    rw [List.getElem?_map, List.getElem?_range hi]
    simp [h]
  unfold pkS
  generalize ((List.range bs.length).map fun i => ((4 : Int), ((f + i : Nat) : Int), bs.getD i [])) = l at hm ⊢
  cases l with
  | nil => simp at hm
  | cons x l =>
    obtain ⟨a, c, d⟩ := x
    cases i with
    | zero =>
      simp only [List.getElem?_cons_zero, Option.some.injEq, Prod.mk.injEq] at hm
      obtain ⟨rfl, rfl, rfl⟩ := hm
      cases lost <;> simp [bumpK]
    | succ i =>
      cases lost
      · simpa [bumpK] using hm
      · simpa [bumpK] using hm
/-- A sample that came to be. -/
structure Sa.ok (cl : List Lc) (s : Sa) : Prop where
  g : ∃ x, cl[s.k]? = some x ∧ x.stim = false ∧ s.l.length = x.tabs.length
  p : 0 < s.l.length
/-- What the law holds while it measures. -/
structure L1c (w1 : World) (L T m q f g d : Nat) (cl : List Lc) (most : Nat) (w : World) (M : Mx) (Aq : Option Addr) (cq : Nat) (pk : List It) (ql lo : List Bool) (Aw : Option Addr) (cw : Nat) (want : List Sa) : Prop where
  mem : MAt w L T m M
  qu : Qat w T q Aq cq ⟨most, pk, ql⟩
  fi : FAt w f
  ga : GAt w T g cl (cl.map og0)
  lb : Blk w d 66 (lo.map Value.bool).toArray
  l4 : lo.length = 4
  wr : Own w T 73 3 Aw want.length cw (sacells want)
  ws : ∀ s ∈ want, SmAt w T s
  bel : Below L w1 w
  eq : pk.map It.key = want.flatMap (Sa.pk cl)
  ok : ∀ s ∈ want, s.ok cl
  ls : ∀ (k : Nat) (x : Lc), cl[k]? = some x → x.tabs ≠ [] → lo[k]? = ql[k]?
  le : pk.length ≤ most
/-- Where the law's own things lie. -/
structure Pos (w1 : World) (L T q f g d : Nat) (most : Nat) : Prop where
  lt : L ≤ T
  q : T ≤ q
  f : T ≤ f
  g : T ≤ g
  d : T ≤ d
  most : most ≤ 64
  tz : T ≤ w1.heap.size
section
variable {w1 w w' : World} {L T m q f g d most cq cw : Nat} {cl : List Lc} {M M' : Mx} {Aq Aw : Option Addr} {pk : List It} {ql lo : List Bool} {want : List Sa}
theorem L1c.below (h : L1c w1 L T m q f g d cl most w M Aq cq pk ql lo Aw cw want) (hP : Pos w1 L T q f g d most) (hb : Below w.heap.size w w') : L1c w1 L T m q f g d cl most w' M Aq cq pk ql lo Aw cw want := by
  exact ⟨h.mem.below hb, h.qu.below hb, h.fi.below hb, h.ga.below hb, h.lb.below hb, h.l4, h.wr.below hb, fun s hs => ⟨(h.ws s hs).1.below hb, fun b hbm => ((h.ws s hs).2 b hbm).below hb⟩, h.bel.trans (hb.mono (by have := h.mem.tz; have := hP.lt; omega)), h.eq, h.ok, h.ls, h.le⟩
/-- The memory was written. -/
theorem L1c.memW (h : L1c w1 L T m q f g d cl most w M Aq cq pk ql lo Aw cw want) (hP : Pos w1 L T q f g d most) (hM : MAt w' L T m M') (hc : ChR L [] L T w w') (hbe : Below L w1 w') : L1c w1 L T m q f g d cl most w' M' Aq cq pk ql lo Aw cw want := by
  have hF : FT w T (fun i => L ≤ i ∧ ((L ≤ i ∧ i < T) ∨ ∃ t cs, Blk w i t cs ∧ t ∈ ([] : List TypeId))) [] := fun i hi _ => by
    rcases hi.2 with h1 | ⟨t, cs, h1, h2⟩
    · exact .inl h1.2
    · cases h2
  have hc' : Chg _ w w' := hc
  exact ⟨hM, h.qu.ft hc' hF (by simp) (by simp) (by simp) hP.q, h.fi.ft hc' hF (by simp) hP.f, h.ga.ft hc' hF (by simp) (by simp) (by simp) (by simp), h.lb.ft hc' hF (by simp) hP.d, h.l4, h.wr.ft hc' hF (by simp) (Nat.le_refl _), fun s hs => (h.ws s hs).ft hc' hF (by simp) (by simp), hbe, h.eq, h.ok, h.ls, h.le⟩
/-- An event. -/
theorem L1c.fired (h : L1c w1 L T m q f g d cl most w M Aq cq pk ql lo Aw cw want) (hP : Pos w1 L T q f g d most) (hf : FAt w' f) (hc : Chg (fun i => i = f) w w') : L1c w1 L T m q f g d cl most w' M Aq cq pk ql lo Aw cw want := by
  obtain ⟨z0, z1, z2, z3, hB⟩ := h.fi
  have hF : FT w T (fun i => i = f) [130] := FT.one hB
  exact ⟨h.mem.ft hc (fun i hi => by have := hP.f; omega), h.qu.ft hc hF (by decide) (by decide) (by decide) hP.q, hf, h.ga.ft hc hF (by decide) (by decide) (by decide) (by decide), h.lb.ft hc hF (by decide) hP.d, h.l4, h.wr.ft hc hF (by decide) (Nat.le_refl _), fun s hs => (h.ws s hs).ft hc hF (by decide) (by decide), h.bel.trans (Chg.below hc (fun i _ hi => by have := hP.f; have := hP.lt; omega) (Nat.le_trans hP.lt h.mem.tz)), h.eq, h.ok, h.ls, h.le⟩
/-- The queue has changed. -/
theorem L1c.queued (h : L1c w1 L T m q f g d cl most w M Aq cq pk ql lo Aw cw want) (hP : Pos w1 L T q f g d most) {A' : Option Addr} {c' : Nat} {pk' : List It} {ql' : List Bool} (hq : Qat w' T q A' c' ⟨most, pk', ql'⟩) (hc : Chg (qF q Aq) w w') :
    MAt w' L T m M ∧ FAt w' f ∧ GAt w' T g cl (cl.map og0) ∧ Blk w' d 66 (lo.map Value.bool).toArray ∧ Own w' T 73 3 Aw want.length cw (sacells want) ∧ (∀ s ∈ want, SmAt w' T s) ∧ Below L w1 w' := by
  have hT : ∀ i, qF q Aq i → T ≤ i := fun i hi => by
    rcases hi with rfl | h1
    · exact hP.q
    · exact (h.qu.own.lt h1).1
  have hF : FT w T (qF q Aq) [127, 82] := fun i hi _ => by
    rcases hi with rfl | h1
    · exact .inr ⟨127, _, h.qu.blk, by simp⟩
    · obtain ⟨cs, hcs⟩ := h.qu.own.row h1
      exact .inr ⟨82, cs, hcs, by simp⟩
  exact ⟨h.mem.ft hc hT, h.fi.ft hc hF (by decide) hP.f, h.ga.ft hc hF (by decide) (by decide) (by decide) (by decide), h.lb.ft hc hF (by decide) hP.d, h.wr.ft hc hF (by decide) (Nat.le_refl _), fun s hs => (h.ws s hs).ft hc hF (by decide) (by decide), h.bel.trans (Chg.below hc (fun i _ hi => Nat.le_trans hP.lt (hT i hi)) (Nat.le_trans hP.lt h.mem.tz))⟩
end
end Go.Proofs.Yteecgdbicokgoaa
namespace Go.Proofs.Yteecgdbicokgoaa
open Go.RowKit
set_option linter.unusedVariables false
set_option linter.unusedSimpArgs false
set_option maxRecDepth 100000
def Pk.it (p : Pk) : It := ⟨4, p.code, p.A, p.bs.length, p.c, p.bs⟩
theorem pcells_it : ∀ (l : List Pk), pcells l = cellsL (l.map Pk.it)
  | [] => rfl
  | p :: l => by
    have ih := pcells_it l
    unfold pcells at ih ⊢
    simp only [flatC, List.map_cons, cellsL, Pk.cs, Pk.it, ih, List.cons_append, List.nil_append]
theorem it_key (p : Pk) : p.it.key = (4, p.d) := rfl
theorem it_keys (M : Mx) (x : Lc) (f : Nat) (hf : x.first = (f : Int)) (pl : List Pk) (h : pl.map Pk.d = (List.range x.tabs.length).map (pkD M x)) :
    (pl.map Pk.it).map It.key = (List.range (x.tabs.map fun t => tbB M t.es).length).map fun i => ((4 : Int), ((f + i : Nat) : Int), (x.tabs.map fun t => tbB M t.es).getD i []) := by
  rw [List.map_map]
  have h1 : (It.key ∘ Pk.it) = (fun d : Int × List Int => ((4 : Int), d)) ∘ Pk.d := rfl
  rw [h1, ← List.map_map, h, List.map_map, List.length_map]
  refine List.map_congr_left fun i hi => ?_
  rw [List.mem_range] at hi
  obtain ⟨t, ht⟩ : ∃ t, x.tabs[i]? = some t := ⟨_, List.getElem?_eq_getElem hi⟩
  simp only [Function.comp_apply, pkD, List.getD_eq_getElem?_getD, ht, Option.getD_some, List.getElem?_map, Option.map_some, hf]
  congr 2
def PutL (w : World) (T q : Nat) (Aq : Option Addr) (cq most : Nat) (pk : List It) (ql : List Bool) (k n : Nat) (its : List It) (e : Ending) (w' : World) : Prop := ∃ pb, e = .returned (.bool pb) ∧ Chg (qF q Aq) w w' ∧
  (pb = false → ∃ ql', Qat w' T q Aq cq ⟨most, pk, ql'⟩ ∧ (n ≠ 0 → ql' = ql.set k true) ∧ (n = 0 → ql' = ql)) ∧
  (pb = true → n ≠ 0 ∧ pk.length + n ≤ most ∧ ∃ A' c' l', Qat w' T q A' c' ⟨most, pk ++ l', ql.set k false⟩ ∧ l'.map It.key = bumpK (ql.getD k false) (its.map It.key))
theorem putl_any {w : World} {T q : Nat} {Aq : Option Addr} {cq most : Nat} {pk : List It} {ql : List Bool} (hQ : Qat w T q Aq cq ⟨most, pk, ql⟩) (hT : T ≤ w.heap.size) (hm : most ≤ 64) (hle : pk.length ≤ most) {k : Nat} (hk : k < 4) {A : Option Addr} {n c : Nat} {its : List It} (hn : its.length = n) (h16 : n ≤ 16)
    (hr : Rd w w.heap.size A (cellsL its)) (hit : ItRd w its) (hb : ∀ t ∈ its, 0 ≤ t.code ∧ t.code < 64) (hin : ∀ g, (blkOf A = some g ∨ ∃ t ∈ its, t.b ≠ [] ∧ blkOf t.A = some g) → ¬ qF q Aq g) :
    Calls Try.prog 25 #[.pointer (some ⟨q, 0, none⟩), .int .i64 k, .slice A n c] w (PutL w T q Aq cq most pk ql k n its) := by
  have hbad : bad its = false := by
    unfold bad
    rw [List.any_eq_false]
    intro t ht
    have := (hb t ht).2
    simp
    omega
  by_cases h0 : n = 0
  · refine (put_noQ ⟨q, 0, none⟩ k A n c its w hn (by unfold maxLen; omega) hr (.inr (.inr (.inl h0)))).mono ?_
    rintro e w' ⟨rfl, hbw⟩
    exact ⟨false, rfl, Chg.of_below hbw _, fun _ => ⟨ql, hQ.below hbw, fun h => absurd h0 h, fun _ => rfl⟩, fun h => by cases h⟩
  · by_cases hfull : most < pk.length + n
    · refine (put_full T q Aq cq ⟨most, pk, ql⟩ k A n c its w hQ hk hn (by omega) (by omega) hr hbad (by show pk.length ≤ 1000000; omega) (by show (most : Int) < (pk.length : Int) + n; omega)).mono ?_
      rintro e w' ⟨rfl, hq', hc⟩
      exact ⟨false, rfl, hc.mono fun i _ hi => .inl hi, fun _ => ⟨_, hq', fun _ => rfl, fun h => absurd h h0⟩, fun h => by cases h⟩
    · refine (put_ok T q Aq cq ⟨most, pk, ql⟩ k A n c its w hQ hT hk hn (by omega) (by omega) hr hit hbad (fun t ht => (hb t ht).1) hin (by show pk.length ≤ 1000000; omega) (by show (pk.length : Int) + n ≤ (most : Int); omega)).mono ?_
      rintro e w' ⟨A', c', l', rfl, hq', hl', hc, -⟩
      exact ⟨true, rfl, hc, fun h => (by cases h), fun _ => ⟨h0, by omega, A', c', l', hq', hl'⟩⟩
section
variable {w1 w w' : World} {L T m q f g d most cq cw : Nat} {cl : List Lc} {M : Mx} {Aq Aw : Option Addr} {pk : List It} {ql lo : List Bool} {want : List Sa}
/-- A sample that was lost. -/
theorem L1c.lostS (h : L1c w1 L T m q f g d cl most w M Aq cq pk ql lo Aw cw want) (hP : Pos w1 L T q f g d most) {k : Nat} {x : Lc} (hx : cl[k]? = some x) (hk : k < 4) {ql' : List Bool} (hc : Chg (qF q Aq) w w') (hq : Qat w' T q Aq cq ⟨most, pk, ql'⟩) (h1 : x.tabs.length ≠ 0 → ql' = ql.set k true) (h0 : x.tabs.length = 0 → ql' = ql) :
    L1c w1 L T m q f g d cl most (w'.setCell ⟨d, k, none⟩ (.bool true)) M Aq cq pk ql' (lo.set k true) Aw cw want := by
  obtain ⟨p1, p2, p3, p4, p5, p6, p7⟩ := h.queued hP hq hc
  have hcd : Chg (fun i => i = d) w' (w'.setCell ⟨d, k, none⟩ (.bool true)) := (Chg.refl (fun i => i = d) _).at_ (q := d) (Eq.refl d) _ _
  have hF : FT w' T (fun i => i = d) [66] := FT.one p4
  refine ⟨p1.ft hcd (fun i hi => by have := hP.d; omega), hq.ft hcd hF (by decide) (by decide) (by decide) hP.q, p2.ft hcd hF (by decide) hP.f, p3.ft hcd hF (by decide) (by decide) (by decide) (by decide), ?_, by rw [List.length_set]; exact h.l4, p5.ft hcd hF (by decide) (Nat.le_refl _), fun s hs => (p6 s hs).ft hcd hF (by decide) (by decide), p7.setCell (p := ⟨d, k, none⟩) (Nat.le_trans hP.lt hP.d) _, h.eq, h.ok, ?_, h.le⟩
  · have := p4.set_ k (.bool true)
    have he : (lo.map Value.bool).toArray.setIfInBounds k (.bool true) = ((lo.set k true).map Value.bool).toArray := by
      rw [List.map_set]
      simp
    rw [he] at this
    exact this
  · intro k' x' hx' hne
    by_cases hkk : k' = k
    · subst hkk
      rw [hx] at hx'
      injection hx' with hx'
      subst hx'
      have hn0 : x.tabs.length ≠ 0 := fun e => hne (List.eq_nil_of_length_eq_zero e)
      have hql : ql.length = 4 := h.qu.four
      rw [h1 hn0, List.getElem?_set_self (by rw [h.l4]; exact hk), List.getElem?_set_self (by rw [hql]; exact hk)]
    · rw [List.getElem?_set_ne (Ne.symm hkk), h.ls k' x' hx' hne]
      by_cases hn0 : x.tabs.length = 0
      · rw [h0 hn0]
      · rw [h1 hn0, List.getElem?_set_ne (Ne.symm hkk)]
/-- A sample that waits now: what the law holds but for its own row. -/
theorem L1c.gained (h : L1c w1 L T m q f g d cl most w M Aq cq pk ql lo Aw cw want) (hP : Pos w1 L T q f g d most) {k : Nat} {x : Lc} (hx : cl[k]? = some x) (hst : x.stim = false) (hk : k < 4) (hc : Chg (qF q Aq) w w') {A' : Option Addr} {c' : Nat} {l' : List It} (hq : Qat w' T q A' c' ⟨most, pk ++ l', ql.set k false⟩)
    {s : Sa} (hs : s.k = k) (hsl : s.l.length = x.tabs.length) (hs0 : x.tabs.length ≠ 0) (hks : l'.map It.key = s.pk cl) (hlen : pk.length + x.tabs.length ≤ most) (hsa : SmAt w' T s)
    {w9 : World} (hg : (w'.setCell ⟨d, k, none⟩ (.bool false)).grownBy w9 (blkOf Aw)) {A9 : Option Addr} {c9 : Nat} (ho : Own w9 T 73 3 A9 (want.length + 1) c9 (sacells want ++ s.cs)) :
    L1c w1 L T m q f g d cl most w9 M A' c' (pk ++ l') (ql.set k false) (lo.set k false) A9 c9 (want ++ [s]) := by
  obtain ⟨p1, p2, p3, p4, p5, p6, p7⟩ := h.queued hP hq hc
  have hcd : Chg (fun i => i = d) w' (w'.setCell ⟨d, k, none⟩ (.bool false)) := (Chg.refl (fun i => i = d) _).at_ (q := d) (Eq.refl d) _ _
  have hF : FT w' T (fun i => i = d) [66] := FT.one p4
  have r5 := p5.ft hcd hF (by decide) (Nat.le_refl _)
  have hcg : Chg (fun i => some i = blkOf Aw) (w'.setCell ⟨d, k, none⟩ (.bool false)) w9 := Chg.of_grown hg
  have hFg : FT (w'.setCell ⟨d, k, none⟩ (.bool false)) T (fun i => some i = blkOf Aw) [73] := fun i hi _ => by
    obtain ⟨cs, hcs⟩ := r5.row hi.symm
    exact .inr ⟨73, cs, hcs, by simp⟩
  have hTg : ∀ i, some i = blkOf Aw → T ≤ i := fun i hi => (r5.lt hi.symm).1
  have hbd : Blk (w'.setCell ⟨d, k, none⟩ (.bool false)) d 66 ((lo.set k false).map Value.bool).toArray := by
    have := p4.set_ k (.bool false)
    have he : (lo.map Value.bool).toArray.setIfInBounds k (.bool false) = ((lo.set k false).map Value.bool).toArray := by
      rw [List.map_set]
      simp
    rw [he] at this
    exact this
  have hml : l'.length = x.tabs.length := by
    have := congrArg List.length hks
    rw [List.length_map, Sa.pk, pkS_len, Sa.bs, List.length_map, hsl] at this
    exact this
  have hb2 := p7.setCell (p := ⟨d, k, none⟩) (Nat.le_trans hP.lt hP.d) (.bool false)
  refine ⟨(p1.ft hcd (fun i hi => by have := hP.d; omega)).ft hcg hTg, (hq.ft hcd hF (by decide) (by decide) (by decide) hP.q).ft hcg hFg (by decide) (by decide) (by decide) hP.q, (p2.ft hcd hF (by decide) hP.f).ft hcg hFg (by decide) hP.f, (p3.ft hcd hF (by decide) (by decide) (by decide) (by decide)).ft hcg hFg (by decide) (by decide) (by decide) (by decide), hbd.ft hcg hFg (by decide) hP.d, by rw [List.length_set]; exact h.l4, ?_, fun s' hs' => ?_, ?_, ?_, fun s' hs' => ?_, ?_, by rw [List.length_append]; omega⟩
  · rw [List.length_append, List.length_singleton, sacells_snoc]
    exact ho
  · rcases List.mem_append.1 hs' with h' | h'
    · exact ((p6 s' h').ft hcd hF (by decide) (by decide)).ft hcg hFg (by decide) (by decide)
    · rw [List.mem_singleton.1 h']
      exact (hsa.ft hcd hF (by decide) (by decide)).ft hcg hFg (by decide) (by decide)
  · refine hb2.grown hg ?_ fun r hr => Nat.le_trans hP.lt (hTg r hr.symm)
    have := p1.tz
    have := hP.lt
    have hsz : (w'.setCell ⟨d, k, none⟩ (.bool false)).heap.size = w'.heap.size := by simp [World.setCell]
    omega
  · rw [List.map_append, List.flatMap_append, h.eq, hks]
    simp
  · rcases List.mem_append.1 hs' with h' | h'
    · exact h.ok s' h'
    · rw [List.mem_singleton.1 h']
      exact ⟨⟨x, by rw [hs]; exact hx, hst, hsl⟩, by omega⟩
  · intro k' x' hx' hne
    by_cases hkk : k' = k
    · subst hkk
      have hql : ql.length = 4 := h.qu.four
      rw [List.getElem?_set_self (by rw [h.l4]; exact hk), List.getElem?_set_self (by rw [hql]; exact hk)]
    · rw [List.getElem?_set_ne (Ne.symm hkk), h.ls k' x' hx' hne, List.getElem?_set_ne (Ne.symm hkk)]
end
end Go.Proofs.Yteecgdbicokgoaa
namespace Go.Proofs.Yteecgdbicokgoaa
open Go.RowKit
set_option linter.unusedVariables false
set_option linter.unusedSimpArgs false
set_option maxRecDepth 100000
theorem Qat.chT {B T q c : Nat} {w w' : World} {A : Option Addr} {s : Qs} {ts : List TypeId} (h : Qat w T q A c s) (hc : ChT B ts w w') (h1 : (127 : TypeId) ∉ ts) (h2 : (82 : TypeId) ∉ ts) (h3 : (5 : TypeId) ∉ ts) : Qat w' T q A c s :=
  ⟨h.blk.chT hc h1, h.own.chT hc h2, fun t ht => ⟨(h.its t ht).1, (h.its t ht).2.1, (h.its t ht).2.2.chT hc h3⟩, h.four⟩
def ShutO (o : Og) : Prop := o.A = none ∧ o.c = 0 ∧ o.l = []
theorem Own.kp {B : Nat} {w w' : World} {base : Nat} {e : TypeId} {size n c : Nat} {A : Option Addr} {xs : List Value} (h : Own w base e size A n c xs) (hk : KP B w w') (hB : ∀ g, blkOf A = some g → g < B) (he : e ≠ 138) : Own w' base e size A n c xs :=
  h.kept fun g hg => hk g (hB g hg) (h.lt hg).2 fun cs hcs => by
    obtain ⟨cs', hcs'⟩ := h.row hg
    exact he (blk_ty hcs' hcs)
structure L2c (w3 : World) (L B T q g : Nat) (cl : List Lc) (most : Nat) (w : World) (rest : List Sa) (j : Nat) (A : Option Addr) (c : Nat) (Aq : Option Addr) (cq : Nat) (pk : List It) (ql : List Bool) (os : List Og) : Prop where
  qu : Qat w T q Aq cq ⟨most, pk, ql⟩
  ga : GAt w T g cl os
  row : Own w T 73 3 A rest.length c (sacells rest)
  rB : ∀ g', blkOf A = some g' → g' < B
  sm : ∀ s ∈ rest, SmAt w T s
  sB : ∀ s ∈ rest, (∀ g', blkOf s.A = some g' → g' < B) ∧ ∀ b ∈ s.l, ∀ g', blkOf b.A = some g' → g' < B
  ok : ∀ s ∈ rest, s.ok cl
  le : pk.length ≤ 64
  eq : pk.map It.key = (rest.flatMap (Sa.pk cl)).drop j
  ol : os.length = cl.length
  om : ∀ (i : Nat) (o : Og) (x : Lc), os[i]? = some o → cl[i]? = some x → o.many = x.tabs.length
  at_ : (rest = [] ∧ j = 0) ∨ ∃ s r, rest = s :: r ∧ j < s.l.length
  sh : j = 0 → ∀ (i : Nat) (o : Og), os[i]? = some o → ShutO o
  sh1 : ∀ s r, rest = s :: r → j ≠ 0 → Shut1 os s.k ∧ ∃ o, os[s.k]? = some o ∧ o.l.map Bz.bs = s.bs.take j ∧ o.lost = s.lost ∧ ∀ g', blkOf o.A = some g' → B ≤ g'
  bel : Below L w3 w
  bz : B ≤ w.heap.size
  tz : T ≤ w.heap.size
section
variable {w3 w w' : World} {L B T m q f g d most cq c cw : Nat} {cl : List Lc} {M : Mx} {Aq A Aw : Option Addr} {pk : List It} {ql lo : List Bool} {want rest : List Sa} {os : List Og} {j : Nat}
theorem L1c.gather (h : L1c w3 L T m q f g d cl most w M Aq cq pk ql lo Aw cw want) (hP : Pos w3 L T q f g d most) : L2c w3 L w.heap.size T q g cl most w want 0 Aw cw Aq cq pk ql (cl.map og0) := by
  refine ⟨h.qu, h.ga, h.wr, fun g' hg' => (h.wr.lt hg').2, h.ws, fun s hs => ⟨fun g' hg' => ((h.ws s hs).1.lt hg').2, fun b hb g' hg' => (((h.ws s hs).2 b hb).lt hg').2⟩, h.ok, Nat.le_trans h.le hP.most, by rw [List.drop_zero]; exact h.eq, List.length_map _, ?_, ?_, ?_, fun s r _ h0 => absurd rfl h0, h.bel, Nat.le_refl _, h.mem.tz⟩
  · intro i o x ho hx
    rw [List.getElem?_map, hx] at ho
    simp only [Option.map_some, Option.some.injEq] at ho
    rw [← ho]; rfl
  · cases want with
    | nil => exact .inl ⟨rfl, rfl⟩
    | cons s r => exact .inr ⟨s, r, rfl, (h.ok s (by simp)).p⟩
  · intro _ i o ho
    rw [List.getElem?_map] at ho
    cases hx : cl[i]? with
    | none => rw [hx] at ho; cases ho
    | some x =>
      rw [hx] at ho
      simp only [Option.map_some, Option.some.injEq] at ho
      rw [← ho]
      exact ⟨rfl, rfl, rfl⟩
theorem Sa.pk_len (cl : List Lc) (s : Sa) : (s.pk cl).length = s.l.length := by rw [Sa.pk, pkS_len, Sa.bs, List.length_map]
theorem L2c.below (h : L2c w3 L B T q g cl most w rest j A c Aq cq pk ql os) (hb : Below w.heap.size w w') (hlt : L ≤ T) : L2c w3 L B T q g cl most w' rest j A c Aq cq pk ql os :=
  ⟨h.qu.below hb, h.ga.below hb, h.row.below hb, h.rB, fun s hs => ⟨(h.sm s hs).1.below hb, fun b hbm => ((h.sm s hs).2 b hbm).below hb⟩, h.sB, h.ok, h.le, h.eq, h.ol, h.om, h.at_, h.sh, h.sh1, h.bel.trans (hb.mono (Nat.le_trans hlt h.tz)), Nat.le_trans h.bz hb.size, Nat.le_trans h.tz hb.size⟩
/-- How many packets wait at q. -/
def qn (q : Nat) (w : World) : Nat := match w.cell? ⟨q, 1, none⟩ with | some (.slice _ n _) => n | _ => 0
theorem qn_at {A' : Option Addr} {c' : Nat} {s : Qs} (h : Qat w T q A' c' s) : qn q w = s.l.length := by unfold qn; rw [h.c0.2]
/-- Nothing waits: all samples came. -/
theorem L2c.over (h : L2c w3 L B T q g cl most w rest j A c Aq cq pk ql os) (hp : pk = []) : rest = [] := by
  rcases h.at_ with ⟨h1, -⟩ | ⟨s, r, h1, h2⟩
  · exact h1
  · have := congrArg List.length h.eq
    rw [hp, h1, List.length_drop, List.flatMap_cons, List.length_append, Sa.pk_len] at this
    simp at this
    omega
/-- The next packet. -/
theorem L2c.next (h : L2c w3 L B T q g cl most w rest j A c Aq cq pk ql os) (hlt : L ≤ T) (hq : T ≤ q) {t : It} {r' : List It} (hp : pk = t :: r') (hc : Chg (fun i => i = q) w w') :
    ∃ s r x bj, rest = s :: r ∧ cl[s.k]? = some x ∧ x.stim = false ∧ s.l.length = x.tabs.length ∧ j < s.l.length ∧ t.kind = 4 ∧ t.code = ((fT cl s.k + j : Nat) : Int) + (if (decide (j = 0) && s.lost) = true then 64 else 0) ∧ s.bs[j]? = some bj ∧ t.b = bj ∧ t.b.length = t.n ∧ t.n ≤ 1000000 ∧
      r'.map It.key = ((s :: r).flatMap (Sa.pk cl)).drop (j + 1) ∧ GAt w' T g cl os ∧ Own w' T 73 3 A rest.length c (sacells rest) ∧ (∀ s ∈ rest, SmAt w' T s) ∧ Own w' T 5 1 t.A t.n t.c (u8s t.b) ∧ Below L w3 w' := by
  have hF : FT w T (fun i => i = q) [127] := FT.one h.qu.blk
  obtain ⟨s, r, h1, h2⟩ : ∃ s r, rest = s :: r ∧ j < s.l.length := by
    rcases h.at_ with ⟨h1, h2⟩ | h1
    · have := congrArg List.length h.eq
      rw [hp, h1] at this
      simp at this
    · exact h1
  obtain ⟨⟨x, hx, hst, hxl⟩, -⟩ := h.ok s (by rw [h1]; simp)
  have hjb : j < s.bs.length := by rw [Sa.bs, List.length_map]; exact h2
  have hbj := List.getElem?_eq_getElem hjb
  have hpj := pkS_at (f := fT cl s.k) (lost := s.lost) hbj
  have he := h.eq
  rw [hp, h1, List.flatMap_cons] at he
  have hpl : j < (s.pk cl).length := by rw [Sa.pk_len]; exact h2
  have h0 : ((s.pk cl ++ r.flatMap (Sa.pk cl)).drop j)[0]? = (s.pk cl)[j]? := by
    rw [List.getElem?_drop, Nat.add_zero, List.getElem?_append_left hpl]
  rw [← he] at h0
  simp only [List.map_cons, List.getElem?_cons_zero] at h0
  rw [show (s.pk cl)[j]? = _ from hpj] at h0
  injection h0 with h0
  simp only [It.key, Prod.mk.injEq] at h0
  have hit := h.qu.its t (by simp only; rw [hp]; simp)
  refine ⟨s, r, x, _, h1, hx, hst, hxl, h2, h0.1, h0.2.1, hbj, h0.2.2, hit.1, hit.2.1, ?_, h.ga.ft hc hF (by decide) (by decide) (by decide) (by decide), h.row.ft hc hF (by decide) (Nat.le_refl _), fun s' hs' => (h.sm s' hs').ft hc hF (by decide) (by decide), hit.2.2.ft hc hF (by decide) (Nat.le_refl _), h.bel.trans (Chg.below hc (fun i _ hi => by omega) (by have := h.tz; omega))⟩
  have h3 := congrArg (List.drop 1) he
  rw [List.drop_drop] at h3
  simpa [Nat.add_comm] using h3
/-- What Take leaves of what the law holds. -/
theorem L2c.kept {s : Sa} {w'' : World} (hm : SmAt w' T s) (hB : (∀ g', blkOf s.A = some g' → g' < B) ∧ ∀ b ∈ s.l, ∀ g', blkOf b.A = some g' → g' < B) (hk : KP B w' w'') : SmAt w'' T s :=
  ⟨hm.1.kp hk hB.1 (by decide), fun b hb => (hm.2 b hb).kp hk (hB.2 b hb) (by decide)⟩
/-- The sample goes on. -/
theorem L2c.more (h : L2c w3 L B T q g cl most w rest j A c Aq cq pk ql os) {s : Sa} {r : List Sa} {x : Lc} {bj : List Int} {r' : List It} {w'' : World} {Aq' : Option Addr} {cq' : Nat} (h1 : rest = s :: r) (hx : cl[s.k]? = some x) (hbj : s.bs[j]? = some bj)
    (hz : B ≤ w''.heap.size) (hz2 : T ≤ w''.heap.size) (hrle : r'.length ≤ 64) (hqu : Qat w'' T q Aq' cq' ⟨most, r', ql⟩) (heq : r'.map It.key = ((s :: r).flatMap (Sa.pk cl)).drop (j + 1)) (hrow : Own w'' T 73 3 A rest.length c (sacells rest)) (hsm : ∀ s ∈ rest, SmAt w'' T s) (hbel : Below L w3 w'')
    {o o' : Og} (ho : os[s.k]? = some o) (hpre : o'.l.map Bz.bs = (if j = 0 then [] else o.l.map Bz.bs) ++ [bj]) (hlo : o'.lost = if j = 0 then (decide (j = 0) && s.lost) else o.lost) (hmy : o'.many = o.many) (hoB : ∀ g', blkOf o'.A = some g' → B ≤ g') (hga : GAt w'' T g cl (os.set s.k o')) (hlt : j + 1 < s.l.length) :
    L2c w3 L B T q g cl most w'' rest (j + 1) A c Aq' cq' r' ql (os.set s.k o') := by
  have hkl := (List.getElem?_eq_some_iff.1 ho).1
  have hsh1 : Shut1 os s.k := fun i o2 hik hi => by
    by_cases h0 : j = 0
    · exact h.sh h0 i o2 hi
    · exact (h.sh1 s r h1 h0).1 i o2 hik hi
  refine ⟨hqu, hga, hrow, h.rB, hsm, h.sB, h.ok, hrle, by rw [h1]; exact heq, by rw [List.length_set]; exact h.ol, ?_, .inr ⟨s, r, h1, hlt⟩, fun e => by omega, ?_, hbel, hz, hz2⟩
  · intro i o2 x2 ho2 hx2
    by_cases hik : s.k = i
    · subst hik
      rw [List.getElem?_set_self hkl] at ho2
      injection ho2 with ho2
      rw [← ho2, hmy]
      exact h.om _ o x2 ho hx2
    · rw [List.getElem?_set_ne hik] at ho2
      exact h.om i o2 x2 ho2 hx2
  · intro s2 r2 he2 _
    rw [h1] at he2
    injection he2 with e1 e2
    subst e1
    refine ⟨fun i o2 hik hi => hsh1 i o2 hik (by rw [List.getElem?_set_ne (Ne.symm hik)] at hi; exact hi), o', List.getElem?_set_self hkl, ?_, ?_, hoB⟩
    · rw [hpre, List.take_add_one, hbj]
      by_cases h0 : j = 0
      · rw [if_pos h0, h0]; rfl
      · obtain ⟨-, o3, ho3, h4, -⟩ := h.sh1 s r h1 h0
        rw [ho] at ho3
        injection ho3 with ho3
        rw [if_neg h0, ho3, h4]
        rfl
    · rw [hlo]
      by_cases h0 : j = 0
      · rw [if_pos h0, h0]; simp
      · obtain ⟨-, o3, ho3, -, h4, -⟩ := h.sh1 s r h1 h0
        rw [ho] at ho3
        injection ho3 with ho3
        rw [if_neg h0, ho3, h4]
/-- The sample is whole. -/
theorem L2c.whole (h : L2c w3 L B T q g cl most w rest j A c Aq cq pk ql os) {s : Sa} {r : List Sa} {r' : List It} {w'' : World} {Aq' : Option Addr} {cq' : Nat} (h1 : rest = s :: r)
    (hz : B ≤ w''.heap.size) (hz2 : T ≤ w''.heap.size) (hrle : r'.length ≤ 64) (hqu : Qat w'' T q Aq' cq' ⟨most, r', ql⟩) (heq : r'.map It.key = ((s :: r).flatMap (Sa.pk cl)).drop (j + 1)) (hrow : Own w'' T 73 3 A rest.length c (sacells rest)) (hsm : ∀ s ∈ rest, SmAt w'' T s) (hbel : Below L w3 w'')
    {o : Og} (ho : os[s.k]? = some o) {lo : Bool} (hga : GAt w'' T g cl (os.set s.k ⟨none, 0, [], lo, o.many⟩)) (hlt : j + 1 = s.l.length) :
    L2c w3 L B T q g cl most w'' r 0 (if c = 1 then A else A.map (·.add 3)) (c - 1) Aq' cq' r' ql (os.set s.k ⟨none, 0, [], lo, o.many⟩) := by
  have hkl := (List.getElem?_eq_some_iff.1 ho).1
  have hrow' := hrow.cut (k := 1) (by rw [h1]; simp) (by decide)
  have hn : rest.length - 1 = r.length := by rw [h1]; simp
  have hd : (sacells rest).drop (1 * 3) = sacells r := by
    rw [h1]
    rfl
  rw [hn, hd] at hrow'
  have hsub : ∀ s' ∈ r, s' ∈ rest := fun s' hs' => by rw [h1]; simp [hs']
  refine ⟨hqu, hga, hrow', ?_, fun s' hs' => hsm s' (hsub s' hs'), fun s' hs' => h.sB s' (hsub s' hs'), fun s' hs' => h.ok s' (hsub s' hs'), hrle, ?_, by rw [List.length_set]; exact h.ol, ?_, ?_, ?_, fun s2 r2 _ h0 => absurd rfl h0, hbel, hz, hz2⟩
  · intro g' hg'
    refine h.rB g' ?_
    split at hg'
    · exact hg'
    · cases A with
      | none => cases hg'
      | some a =>
        simp only [blkOf, Option.map_some] at hg' ⊢
        rw [add_block] at hg'
        exact hg'
  · rw [heq, List.flatMap_cons, List.drop_zero, hlt, ← Sa.pk_len cl s, List.drop_left]
  · intro i o2 x2 ho2 hx2
    by_cases hik : s.k = i
    · subst hik
      rw [List.getElem?_set_self hkl] at ho2
      injection ho2 with ho2
      rw [← ho2]
      exact h.om _ o x2 ho hx2
    · rw [List.getElem?_set_ne hik] at ho2
      exact h.om i o2 x2 ho2 hx2
  · cases r with
    | nil => exact .inl ⟨rfl, rfl⟩
    | cons s' r'' => exact .inr ⟨s', r'', rfl, (h.ok s' (hsub s' (by simp))).p⟩
  · intro _ i o2 ho2
    by_cases hik : s.k = i
    · subst hik
      rw [List.getElem?_set_self hkl] at ho2
      injection ho2 with ho2
      rw [← ho2]
      exact ⟨rfl, rfl, rfl⟩
    · rw [List.getElem?_set_ne hik] at ho2
      by_cases h0 : j = 0
      · exact h.sh h0 i o2 ho2
      · exact (h.sh1 s r h1 h0).1 i o2 (Ne.symm hik) ho2
end
end Go.Proofs.Yteecgdbicokgoaa
