/- Daq: Lists. -/
import Derived.Test.YteecgdbicokgoaaG3
namespace Go.Proofs.Yteecgdbicokgoaa
open Go.RowKit
set_option linter.unusedVariables false
set_option linter.unusedSimpArgs false
set_option maxRecDepth 100000
def CloneEP (w : World) (n : Nat) (vs : List Value) (e : Ending) (w' : World) : Prop := ∃ A c, e = .returned (.slice A n c) ∧ Own w' w.heap.size 76 3 A n c vs ∧ Below w.heap.size w w'
theorem fr43 (W : World) : Own (W.alloc (.cells #[] 76)) W.heap.size 76 3 (some ⟨W.heap.size, 0, none⟩) 0 0 [] := Own.made (e := 76) (size := 3) W (Nat.le_refl _) #[] 0 0 (by decide) (by decide) rfl
theorem cloneE_any (A : Option Addr) (n c : Nat) (l : List En) (w : World) (hx : l.length = n) (hr : Rd w w.heap.size A (ecells l)) (hA : A = none → n = 0 ∧ c = 0) (hl : n ≤ 1000000) :
    Calls Try.prog 69 #[.slice A n c] w (CloneEP w n (ecells l)) := by
  subst hx
  cases A with
  | none =>
    obtain ⟨h0, rfl⟩ := hA rfl
    obtain rfl : l = [] := List.eq_nil_of_length_eq_zero h0
    have he := Lib.run_eql_slice_nil (P := Try.prog) w 74 76 none 0 0 0 0 Try.underlying74
    go_enter Try.func69, Try.ntmps69
    go_wp2
    go_ret
    exact ⟨none, 0, rfl, Own.nil _ _ _ _, Below.refl _ _⟩
  | some a =>
    have he := fun w => Lib.run_eql_slice_nil (P := Try.prog) w 74 76 (some a) l.length c 0 0 Try.underlying74
    have hbel := (Below.refl w.heap.size w).alloc (Nat.le_refl _) (.cells #[] 76)
    have hr' := hr.al (.cells #[] 76)
    clear hA
    go_enter Try.func69, Try.ntmps69
    go_wp2_with (at_builtin; refine wpList_app _ rfl (.tmp 5) (.tmp 6) 74 rfl w.heap.size 76 (.agg #[.int .u8 0, .int .u8 0, .int .u32 0]) 3 8 Try.underlying74 info43 rfl (by decide) _ 0 0 [] rfl (fr43 w) _ _ l.length c _ rfl (ecells_len l) hr' (ecells_one _) (by unfold maxLen; omega) (by omega) (by simp) ?_; intro A' c' w' hown hg hbk)
    go_ret
    simp only [Nat.zero_add, List.nil_append] at hown
    exact ⟨A', c', by simp, hown, bel_app hbel (fr43 w) (Nat.le_refl _) hg⟩
/-- Tables of a call's own. -/
structure OT (w : World) (base : Nat) (A : Option Addr) (c : Nat) (l : List Tb) : Prop where
  row : Own w base 74 1 A l.length c (tcells l)
  ent : ∀ (k : Nat) (t : Tb), l[k]? = some t → Own w base 76 3 t.A t.es.length t.c (ecells t.es)
  inj : ∀ (k : Nat) (t : Tb) (k' : Nat) (t' : Tb), l[k]? = some t → l[k']? = some t' → ∀ g, blkOf t.A = some g → blkOf t'.A = some g → k = k'
/-- Lists of a call's own. -/
structure OL (w : World) (base : Nat) (A : Option Addr) (c : Nat) (l : List Lc) : Prop where
  row : Own w base 71 8 A l.length c (lcells l)
  tab : ∀ (i : Nat) (x : Lc), l[i]? = some x → OT w base x.A x.c x.tabs
  inj : ∀ (i : Nat) (x : Lc) (k : Nat) (t : Tb) (i' : Nat) (x' : Lc) (k' : Nat) (t' : Tb), l[i]? = some x → x.tabs[k]? = some t → l[i']? = some x' → x'.tabs[k']? = some t' → ∀ g, blkOf t.A = some g → blkOf t'.A = some g → i = i' ∧ k = k'
section
variable {w w' : World} {base : Nat} {A : Option Addr} {c : Nat}
theorem OT.below {l : List Tb} (h : OT w base A c l) (hb : Below w.heap.size w w') : OT w' base A c l := ⟨h.row.below hb, fun k t ht => (h.ent k t ht).below hb, h.inj⟩
theorem OT.more {l : List Tb} (h : OT w base A c l) {b' : Nat} (hb : b' ≤ base) : OT w b' A c l := ⟨h.row.more hb, fun k t ht => (h.ent k t ht).more hb, h.inj⟩
theorem OL.below {l : List Lc} (h : OL w base A c l) (hb : Below w.heap.size w w') : OL w' base A c l := ⟨h.row.below hb, fun k t ht => (h.tab k t ht).below hb, h.inj⟩
theorem OL.rl {l : List Lc} (h : OL w base A c l) : RL w A l := ⟨h.row.rd, fun i x hx => (h.tab i x hx).row.rd, fun i x k t hx ht => ((h.tab i x hx).ent k t ht).rd⟩
theorem OT.one {l : List Tb} (h : OT w base A c l) {g : Nat} (hg : w.grownBy w' (some g)) (hlt : g < base) : OT w' base A c l := by
  have k : ∀ {e : TypeId} {size n c : Nat} {A : Option Addr} {xs : List Value}, Own w base e size A n c xs → Own w' base e size A n c xs := fun ho => ho.grown hg (.inr fun e => by have := (ho.lt e).1; omega)
  exact ⟨k h.row, fun i t ht => k (h.ent i t ht), h.inj⟩
theorem OT.nil (w : World) (base : Nat) : OT w base none 0 [] := ⟨Own.nil _ _ _ _, (fun k t h => by simp at h), fun k t k' t' h => by simp at h⟩
theorem OL.nil (w : World) (base : Nat) : OL w base none 0 [] := ⟨Own.nil _ _ _ _, (fun k t h => by simp at h), fun i x k t i' x' k' t' h => by simp at h⟩
theorem snoc_get {α : Type} {l : List α} {y : α} {k : Nat} {t : α} (h : (l ++ [y])[k]? = some t) : (k < l.length ∧ l[k]? = some t) ∨ (k = l.length ∧ t = y) := by
  rcases Nat.lt_or_ge k l.length with hk | hk
  · rw [List.getElem?_append_left hk] at h
    exact .inl ⟨hk, h⟩
  · rw [List.getElem?_append_right hk] at h
    have : k - l.length = 0 := by
      rcases Nat.eq_zero_or_pos (k - l.length) with h0 | h0
      · exact h0
      · rw [List.getElem?_cons, if_neg (by omega)] at h
        simp at h
    rw [this] at h
    simp at h
    exact .inr ⟨by omega, h.symm⟩
/-- A world in which only the row grew. -/
theorem own_kept {e : TypeId} {size n c' : Nat} {A' : Option Addr} {xs : List Value} {B' : Nat} {e2 : TypeId} {size2 n2 c2 : Nat} {ys : List Value} (h : Own w base e size A n c' xs) (hr : Own w B' e2 size2 A' n2 c2 ys) (hne : e ≠ e2) (hg : w.grownBy w' (blkOf A')) : Own w' base e size A n c' xs :=
  h.grown hg (own_own_ne h hr hne)
/-- One more table behind. -/
theorem OT.snoc {l : List Tb} (h : OT w base A c l) {w1 w2 : World} (hb : Below w.heap.size w w1) {t : Tb} (ho : Own w1 w.heap.size 76 3 t.A t.es.length t.c (ecells t.es)) (hbase : base ≤ w.heap.size) {ty : TypeId} {A2 : Option Addr} {c2 : Nat}
    (h2 : Own w2 base 74 1 A2 (l.length + 1) c2 (tcells l ++ t.cs)) (hg : (w1.alloc (.cells #[.slice t.A t.es.length t.c] ty)).grownBy w2 (blkOf A)) : OT w2 base A2 c2 (l ++ [t]) := by
  have hb1 := bl1 w1 (.cells #[.slice t.A t.es.length t.c] ty)
  have hrow := (h.row.below hb).below hb1
  refine ⟨?_, fun k t' ht' => ?_, fun k t1 k' t2 h1 h3 g e1 e2 => ?_⟩
  · rw [List.length_append, tcells, flatC_app]
    simp only [flatC, List.append_nil]
    exact h2
  · rcases snoc_get ht' with ⟨-, h1⟩ | ⟨-, rfl⟩
    · exact own_kept (((h.ent k t' h1).below hb).below hb1) hrow (by decide) hg
    · exact own_kept ((ho.below hb1).more hbase) hrow (by decide) hg
  · have new : ∀ (t' : Tb), (∃ k : Nat, l[k]? = some t') → blkOf t'.A = some g → blkOf t.A = some g → False := fun t' ⟨k, hk⟩ e1 e2 => by
      have := ((h.ent k t' hk).lt e1).2
      have := (ho.lt e2).1
      omega
    rcases snoc_get h1 with ⟨-, j1⟩ | ⟨j0, j1⟩
    · rcases snoc_get h3 with ⟨-, j3⟩ | ⟨j4, j3⟩
      · exact h.inj k t1 k' t2 j1 j3 g e1 e2
      · exact (new t1 ⟨_, j1⟩ e1 (by rw [← j3]; exact e2)).elim
    · rcases snoc_get h3 with ⟨-, j3⟩ | ⟨j4, j3⟩
      · exact (new t2 ⟨_, j3⟩ e2 (by rw [← j1]; exact e1)).elim
      · omega
/-- One more list behind. -/
theorem OL.snoc {l : List Lc} (h : OL w base A c l) {w1 w2 : World} (hb : Below w.heap.size w w1) {x : Lc} (ho : OT w1 w.heap.size x.A x.c x.tabs) (hbase : base ≤ w.heap.size) {ty : TypeId} {A2 : Option Addr} {c2 : Nat}
    (h2 : Own w2 base 71 8 A2 (l.length + 1) c2 (lcells l ++ x.cs)) (hg : (w1.alloc (.cells x.cs.toArray ty)).grownBy w2 (blkOf A)) : OL w2 base A2 c2 (l ++ [x]) := by
  have hb1 := bl1 w1 (.cells x.cs.toArray ty)
  have hrow := (h.row.below hb).below hb1
  have keepT : ∀ {A' : Option Addr} {c' : Nat} {l' : List Tb} {b' : Nat}, OT (w1.alloc (.cells x.cs.toArray ty)) b' A' c' l' → OT w2 b' A' c' l' := fun hT =>
    ⟨own_kept hT.row hrow (by decide) hg, fun k t ht => own_kept (hT.ent k t ht) hrow (by decide) hg, hT.inj⟩
  refine ⟨?_, fun i y hy => ?_, fun i x1 k t1 i' x2 k' t2 h1 h1' h3 h3' g e1 e2 => ?_⟩
  · rw [List.length_append, lcells, flatC_app]
    simp only [flatC, List.append_nil]
    exact h2
  · rcases snoc_get hy with ⟨-, h1⟩ | ⟨-, rfl⟩
    · exact keepT (((h.tab i y h1).below hb).below hb1)
    · exact keepT ((ho.below hb1).more hbase)
  · have new : ∀ (i : Nat) (y : Lc) (k k' : Nat) (t' t'' : Tb), l[i]? = some y → y.tabs[k]? = some t' → x.tabs[k']? = some t'' → blkOf t'.A = some g → blkOf t''.A = some g → False := fun i y k k' t' t'' hy ht' ht'' e1 e2 => by
      have := (((h.tab i y hy).ent k t' ht').lt e1).2
      have := ((ho.ent k' t'' ht'').lt e2).1
      omega
    rcases snoc_get h1 with ⟨-, j1⟩ | ⟨j0, j1⟩
    · rcases snoc_get h3 with ⟨-, j3⟩ | ⟨j4, j3⟩
      · exact h.inj i x1 k t1 i' x2 k' t2 j1 h1' j3 h3' g e1 e2
      · exact (new i x1 k k' t1 t2 j1 h1' (by rw [← j3]; exact h3') e1 e2).elim
    · rcases snoc_get h3 with ⟨-, j3⟩ | ⟨j4, j3⟩
      · exact (new i' x2 k' k t2 t1 j3 h3' (by rw [← j1]; exact h1') e2 e1).elim
      · exact ⟨by omega, ho.inj k t1 k' t2 (by rw [← j1]; exact h1') (by rw [← j3]; exact h3') g e1 e2⟩
end
/-- Lists, each with the number of its first table. -/
def lsts : Nat → List Ls → List Ls
  | _, [] => []
  | n, x :: l => { x with first := n } :: lsts (n + x.tabs.length) l
def listsX (l : List Ls) : List Ls := lsts 0 l
theorem lsts_get : ∀ (l : List Ls) (n k : Nat), (lsts n l)[k]? = (l[k]?).map fun x => { x with first := ((n + manyT (l.take k) : Nat) : Int) }
  | [], n, k => by simp [lsts]
  | x :: l, n, 0 => by simp [lsts, manyT]
  | x :: l, n, k + 1 => by
    rw [lsts, List.getElem?_cons_succ, List.getElem?_cons_succ, lsts_get l _ k]
    simp only [List.take_succ_cons, manyT, List.map_cons, List.sum_cons, Nat.add_assoc]
theorem lsts_len : ∀ (l : List Ls) (n : Nat), (lsts n l).length = l.length
  | [], n => rfl
  | x :: l, n => by simp [lsts, lsts_len l]
theorem many_take : ∀ (l : List Ls) (k : Nat) (x : Ls), l[k]? = some x → manyT (l.take (k + 1)) = manyT (l.take k) + x.tabs.length
  | [], k, x, h => by simp at h
  | y :: l, 0, x, h => by simp at h; subst h; simp [manyT]
  | y :: l, k + 1, x, h => by
    have ih := many_take l k x (by simpa using h)
    simp only [List.take_succ_cons, manyT, List.map_cons, List.sum_cons] at ih ⊢
    omega
theorem many_le : ∀ (l : List Ls) (k : Nat), manyT (l.take k) ≤ manyT l
  | [], k => by simp [manyT]
  | y :: l, 0 => by simp [manyT]
  | y :: l, k + 1 => by
    have ih := many_le l k
    simp only [List.take_succ_cons, manyT, List.map_cons, List.sum_cons] at ih ⊢
    omega
def ListsP (w : World) (ls : List Ls) (e : Ending) (w' : World) : Prop := ∃ A c cl, e = .returned (.slice A cl.length c) ∧ abs cl = ls ∧ OL w' w.heap.size A c cl ∧ Below w.heap.size w w'
/-- The first k lists, copied. -/
structure LK (w0 : World) (cl : List Lc) (k : Nat) (A : Option Addr) (c : Nat) (m : List Lc) (w : World) : Prop where
  l : m.length = k
  v : ∀ (i : Nat) (x : Lc), m[i]? = some x → ∃ y, (abs cl)[i]? = some y ∧ x.ab = { y with first := ((manyT ((abs cl).take i) : Nat) : Int) }
  o : OL w w0.heap.size A c m
  b : Below w0.heap.size w0 w
/-- The first k tables, copied. -/
structure TK (w0 : World) (ts : List Tb) (k : Nat) (A : Option Addr) (c : Nat) (m : List Tb) (w : World) : Prop where
  l : m.length = k
  v : m.map Tb.ab = (ts.map Tb.ab).take k
  o : OT w w0.heap.size A c m
  b : Below w0.heap.size w0 w
theorem lists_nil (w : World) : Calls Try.prog 46 #[.pointer none] w fun e w' => e = .returned (.slice none 0 0) ∧ w = w' := by
  go_enter Try.func46, Try.ntmps46
  go_wp2_with fail
  go_ret
  exact ⟨rfl, rfl⟩
set_option maxRecDepth 20000 in
set_option maxHeartbeats 6000000 in
theorem lists_any {Φ : Who} {B q : Nat} {w : World} {a : Dq} (h : DX Φ B w q a) : Calls Try.prog 46 #[.pointer (some ⟨q, 0, none⟩)] w (ListsP w (listsX a.ls)) := by
  obtain ⟨hok, A0, c0, cl, P, hab, hX⟩ := h
  have hn := hok.n4
  have hm16 := hok.m16
  have ht7 := hok.t7
  rw [← hab] at hn hm16 ht7 ⊢
  rw [abs_len] at hn
  obtain ⟨n, hnn⟩ : ∃ n, cl.length = n := ⟨_, rfl⟩
  have HL := Lib.hid hnn
  have hnI : (cl.length : Int) ≤ 4 := by omega
  have hc := hX.cells
  have HX := Lib.hid hX
  have HM := Lib.hid hm16
  have H7 := Lib.hid ht7
  rw [hnn] at hc hn hnI
  clear hok hab hX hnn hm16 ht7
  go_enter Try.func46, Try.ntmps46
  go_wp2_with fail
  clear hc
  go_loopw [17, 3, 4] (fun iv ov fv wr => ∃ (k : Nat) (A : Option Addr) (c : Nat) (m : List Lc), k ≤ n ∧ iv = .int .i64 k ∧ ov = .slice A k c ∧ fv = .int .i64 (manyT ((abs cl).take k) : Nat) ∧ LK w cl k A c m wr) (fun iv _ _ _ => n - (intOf iv).toNat)
  case atStart => exact ⟨0, none, 0, [], Nat.zero_le _, rfl, rfl, rfl, rfl, (fun i x hx => by simp at hx), OL.nil _ _, Below.refl _ _⟩
  case round =>
    obtain ⟨k, A, c, m, hk, rfl, rfl, rfl, hK⟩ := hrel
    by_cases hlt : k < n
    · have hlt' : (k : Int) < n := by omega
      obtain ⟨x, hx⟩ : ∃ x, cl[k]? = some x := ⟨_, List.getElem?_eq_getElem (by rw [HL.out]; exact hlt)⟩
      obtain ⟨g, o, rfl⟩ := HX.out.ad (i := k) (by rw [HL.out]; exact hlt)
      have hXr := HX.out.below hK.b
      have r0 := hXr.lcell rfl hx 0 _ rfl
      have r1 := hXr.lcell rfl hx 1 _ rfl
      have r2 := hXr.lcell rfl hx 2 _ rfl
      have r3 := hXr.lcell rfl hx 3 _ rfl
      have r4 := hXr.lcell rfl hx 4 _ rfl
      have r5 := hXr.lcell rfl hx 5 _ rfl
      have r6 := hXr.lcell rfl hx 6 _ rfl
      have r7 := hXr.lcell rfl hx 7 _ rfl
      rw [Nat.add_zero] at r0
      have HXR := Lib.hid hXr
      have HKR := Lib.hid hK
      have HXX := Lib.hid hx
      have hxm := Nat.le_trans (many_get _ _ _ (abs_get hx)) HM.out
      have hsum := many_take _ _ _ (abs_get hx)
      have hsle := Nat.le_trans (many_le (abs cl) (k + 1)) HM.out
      have hxl : x.ab.tabs.length = x.tabs.length := by simp [Lc.ab]
      rw [hxl] at hxm hsum
      obtain ⟨nt, hnt⟩ : ∃ nt, x.tabs.length = nt := ⟨_, rfl⟩
      have HNT := Lib.hid hnt
      obtain ⟨xA, hxA⟩ : ∃ xA, x.A = xA := ⟨_, rfl⟩
      have HXA := Lib.hid hxA
      obtain ⟨f0, hf0⟩ : ∃ f0, manyT ((abs cl).take k) = f0 := ⟨_, rfl⟩
      have HF0 := Lib.hid hf0
      obtain ⟨f1, hf1⟩ : ∃ f1, manyT ((abs cl).take (k + 1)) = f1 := ⟨_, rfl⟩
      have HF1 := Lib.hid hf1
      rw [hnt, hxA] at r1
      rw [hnt] at hxm hsum
      rw [hf0, hf1] at hsum
      rw [hf1] at hsle
      rw [hf0]
      clear hXr hK hx hxl hnt hxA hf0 hf1
      go_upto_region 8 with fail
      refine wp_named fun W hW => ?_
      obtain ⟨BL, hbW⟩ := blk1 (c1 := #[.int .i64 x.first, .slice xA nt x.c, .bool x.stim, .int .u8 x.ev, .int .u8 x.pre, .int .u8 x.pri, .bool x.on, .bool x.ch]) hW
      have bl := BL.cell
      obtain ⟨gl, hgl⟩ : ∃ gl, wr.heap.size = gl := ⟨_, rfl⟩
      rw [hgl] at BL bl ⊢
      have HGL := Lib.hid hgl
      clear hW hgl r0 r1 r2 r3 r4 r5 r6 r7
      go_wp2_with fail
      clear bl
      go_loopw [24, 7] (fun jv tv wr => ∃ (j : Nat) (A : Option Addr) (c : Nat) (m : List Tb), j ≤ nt ∧ jv = .int .i64 j ∧ tv = .slice A j c ∧ TK W x.tabs j A c m wr) (fun jv _ _ => nt - (intOf jv).toNat)
      case atStart => exact ⟨0, none, 0, [], Nat.zero_le _, rfl, rfl, rfl, rfl, OT.nil _ _, Below.refl _ _⟩
      case round =>
        obtain ⟨j, AT, cT, mt, hj, rfl, rfl, hT⟩ := hrel
        by_cases hlj : j < nt
        · have hljI : (j : Int) < nt := by omega
          obtain ⟨t, ht⟩ : ∃ t, x.tabs[j]? = some t := ⟨_, List.getElem?_eq_getElem (by rw [HNT.out]; exact hlj)⟩
          have hXt := (HXR.out.below hbW).below hT.b
          obtain ⟨gt, ot, hAt⟩ := (hXt.tab k x HXX.out).1.at_ (by rw [HNT.out]; omega)
          have q0 := hXt.tcell HXX.out hAt ht
          rw [HXA.out] at hAt
          subst hAt
          have ht7 : t.es.length ≤ 7 := H7.out x.ab (List.mem_of_getElem? (abs_get HXX.out)) t.es (by
            unfold Lc.ab
            exact List.mem_map.2 ⟨t, List.mem_of_getElem? ht, rfl⟩)
          have hE := (hXt.ent k x j t HXX.out ht).1
          have CL := Lib.hid (cloneE_any t.A t.es.length t.c t.es wr rfl hE.rd (fun h => by have h1 := hE.2.2.2.1 h; have h2 := hE.2.1; omega) (by omega))
          have HTK := Lib.hid hT
          have HTT := Lib.hid ht
          obtain ⟨me, hme⟩ : ∃ me, t.es.length = me := ⟨_, rfl⟩
          have HME := Lib.hid hme
          rw [hme] at CL q0
          have hcT := hT.o.row.2.2.1
          clear hXt hE hT ht hme ht7
          go_wp2_with fail
          refine CL.out.mono ?_
          rintro e w3 ⟨A3, c3, rfl, ho3, b3⟩
          have hzW3 := HTK.out.b.size
          have hrow3 := (HTK.out.o.row.below b3).below (bl1 w3 (.cells #[.slice A3 me c3] 74))
          rw [HTK.out.l] at hrow3
          have hml := HTK.out.l
          go_wp2_with (at_builtin; refine wpList_app _ rfl (.tmp 28) (.tmp 31) 69 rfl W.heap.size 74 (.slice none 0 0) 1 24 Try.underlying69 info41 rfl (by decide) AT j cT _ rfl hrow3 _ _ 1 1 [.slice A3 me c3] rfl rfl ((Blk.new w3 74 #[.slice A3 me c3]).rd) (one_one rfl) (by unfold maxLen; omega) (by omega) (Nat.le_trans hzW3 (Nat.le_trans b3.size (by simp))) ?_; intro A4 c4 w4 ho4 hg4 hbk4)
          have FF : Hid (∃ (j' : Nat) (A : Option Addr) (c : Nat) (m : List Tb), j' ≤ nt ∧ Value.int .i64 ((j : Int) + 1) = .int .i64 j' ∧ Value.slice A4 (j + 1) c4 = .slice A j' c ∧ TK W x.tabs j' A c m w4) := Lib.hid (by
            refine ⟨j + 1, A4, c4, mt ++ [⟨A3, c3, t.es⟩], by omega, by simp, rfl, by simp [hml], ?_, ?_, ?_⟩
            · rw [List.map_append, HTK.out.v, List.take_add_one, List.getElem?_map, HTT.out]
              rfl
            · refine HTK.out.o.snoc (t := ⟨A3, c3, t.es⟩) b3 (by rw [HME.out]; exact ho3) hzW3 (by rw [hml]; show Own _ _ _ _ _ _ _ (_ ++ [Value.slice A3 t.es.length c3]); rw [HME.out]; exact ho4) (ty := 74) (by rw [HME.out]; exact hg4)
            · exact bel_grown' ((HTK.out.b.trans (b3.mono hzW3)).trans ((bl1 w3 (.cells #[.slice A3 me c3] 74)).mono (Nat.le_trans hzW3 b3.size))) (Nat.le_trans hzW3 (Nat.le_trans b3.size (by simp))) hrow3 hg4)
          clear CL hrow3 ho4 hg4 hbk4
          go_roundw
          case rel => exact FF.out
          case measure => simp [intOf]; omega
        · obtain rfl : j = nt := by omega
          have hzW := hT.b.size
          have BLr := BL.below hT.b
          have hmv : mt.map Tb.ab = x.tabs.map Tb.ab := by rw [hT.v, List.take_of_length_le (by rw [List.length_map, HNT.out]; exact Nat.le_refl _)]
          have HMV := Lib.hid hmv
          have hbr := hbW.trans (hT.b.mono hbW.size)
          have HTO := Lib.hid hT.o
          have HML := Lib.hid hT.l
          have hglW : gl < W.heap.size := BL.lt
          have hg0 := HGL.out
          have HBR := Lib.hid hbr
          have hk0 := HKR.out.b.size
          have hfI : (f1 : Int) ≤ 16 := by omega
          have hf01 : (f0 : Int) + j = (f1 : Int) := by omega
          clear hT hmv hbr hsum
          go_upto_region 15 with (first
            | (refine wpList_stB rfl 69 (.tmp 36) (.tmp 34) rfl (.slice AT j cT) 1 rfl rfl BLr (by simp [Value.cells]) (by kernel_rfl) (by simp [Value.cells, Value.oneCell']) ?_; intro w5 B5 hg5)
            | (refine wpList_stB rfl 3 (.tmp 37) (.tmp 35) rfl (.int .i64 f0) 0 rfl rfl B5 (by simp [Value.cells, putL]) (by kernel_rfl) (by simp [Value.cells, Value.oneCell']) ?_; intro w6 B6 hg6))
          have B6 : Blk w6 gl 71 #[.int .i64 f0, .slice AT j cT, .bool x.stim, .int .u8 x.ev, .int .u8 x.pre, .int .u8 x.pri, .bool x.on, .bool x.ch] := B6
          have b6 := B6.cell
          have hb5 := bel_grown HBR.out hg5 (by rw [hg0]; exact Nat.le_refl _)
          have hb6 := bel_grown hb5 hg6 (by rw [hg0]; exact Nat.le_refl _)
          have hO6 := (HTO.out.one hg5 hglW).one hg6 hglW
          have hbA := HKR.out.b.trans (hb6.mono hk0)
          have hrow6 := (HKR.out.o.row.below hb6).below (bl1 w6 (.cells #[.int .i64 f0, .slice AT j cT, .bool x.stim, .int .u8 x.ev, .int .u8 x.pre, .int .u8 x.pri, .bool x.on, .bool x.ch] 71))
          rw [HKR.out.l] at hrow6
          have hml := HKR.out.l
          have hz6 := hbA.size
          clear BLr B5 hg5 hg6 hb5 BL
          go_wp2_with (at_builtin; refine wpList_app _ rfl (.tmp 38) (.tmp 40) 51 rfl w.heap.size 71 (.agg #[.int .i64 0, .slice none 0 0, .bool false, .int .u8 0, .int .u8 0, .int .u8 0, .bool false, .bool false]) 8 40 Try.underlying51 info40 rfl (by decide) A k c _ rfl hrow6 _ _ 1 1 [.int .i64 f0, .slice AT j cT, .bool x.stim, .int .u8 x.ev, .int .u8 x.pre, .int .u8 x.pri, .bool x.on, .bool x.ch] rfl rfl ((Blk.new w6 71 #[.int .i64 f0, .slice AT j cT, .bool x.stim, .int .u8 x.ev, .int .u8 x.pre, .int .u8 x.pri, .bool x.on, .bool x.ch]).rd) (by intro v hv; simp at hv; rcases hv with rfl | rfl | rfl | rfl | rfl | rfl | rfl | rfl <;> rfl) (by unfold maxLen; omega) (by omega) (by simp; omega) ?_; intro A7 c7 w7 ho7 hg7 hbk7)
          have FF : Hid (∃ (k' : Nat) (A : Option Addr) (c : Nat) (m : List Lc), k' ≤ n ∧ Value.int .i64 ((k : Int) + 1) = .int .i64 k' ∧ Value.slice A7 (k + 1) c7 = .slice A k' c ∧ Value.int .i64 (f1 : Int) = .int .i64 (manyT ((abs cl).take k') : Nat) ∧ LK w cl k' A c m w7) := Lib.hid (by
            refine ⟨k + 1, A7, c7, m ++ [⟨AT, cT, mt, f0, x.stim, x.ev, x.pre, x.pri, x.on, x.ch⟩], by omega, by simp, rfl, by rw [HF1.out], by simp [hml], fun i y hy => ?_, ?_, ?_⟩
            · rcases snoc_get hy with ⟨-, h1⟩ | ⟨h1, h2⟩
              · exact HKR.out.v i y h1
              · refine ⟨x.ab, by rw [h1, hml]; exact abs_get HXX.out, ?_⟩
                rw [h2, h1, hml, HF0.out]
                unfold Lc.ab
                simp only [HMV.out]
            · refine HKR.out.o.snoc (x := ⟨AT, cT, mt, f0, x.stim, x.ev, x.pre, x.pri, x.on, x.ch⟩) hb6 (hO6.more hbW.size) hk0 (ty := 71) ?_ ?_
              · rw [hml]
                show Own _ _ _ _ _ _ _ (_ ++ [Value.int .i64 f0, .slice AT mt.length cT, .bool x.stim, .int .u8 x.ev, .int .u8 x.pre, .int .u8 x.pri, .bool x.on, .bool x.ch])
                rw [HML.out]
                exact ho7
              · show (w6.alloc (.cells #[Value.int .i64 f0, .slice AT mt.length cT, .bool x.stim, .int .u8 x.ev, .int .u8 x.pre, .int .u8 x.pri, .bool x.on, .bool x.ch] 71)).grownBy w7 (blkOf A)
                rw [HML.out]
                exact hg7
            · exact bel_grown' (hbA.trans ((bl1 w6 _).mono hz6)) (by simp; omega) hrow6 hg7)
          clear hrow6 ho7 hg7 hbk7 b6 B6
          go_roundw
          case rel => exact FF.out
          case measure => simp [intOf]; omega
    · obtain rfl : k = n := by omega
      have FF : Hid (ListsP w (listsX (abs cl)) (.returned (.slice A k c)) wr) := Lib.hid ⟨A, c, m, by rw [hK.l], by
        apply List.ext_getElem?
        intro i
        unfold listsX
        rw [lsts_get]
        rcases Nat.lt_or_ge i k with hi | hi
        · obtain ⟨y, hy⟩ : ∃ y, m[i]? = some y := ⟨_, List.getElem?_eq_getElem (by rw [hK.l]; exact hi)⟩
          obtain ⟨z, hz, hv⟩ := hK.v i y hy
          rw [abs_get hy, hz, hv, Nat.zero_add]
          rfl
        · rw [List.getElem?_eq_none (by rw [abs_len, hK.l]; exact hi), List.getElem?_eq_none (by rw [abs_len, HL.out]; exact hi)]
          rfl, hK.o, hK.b⟩
      clear hK
      go_wp2_with fail
      go_ret
      exact FF.out
end Go.Proofs.Yteecgdbicokgoaa
