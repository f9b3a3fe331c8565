/- gather: what a Gather holds; New. gather: how a record is changed. -/
import Derived.Test.YteecgdbicokgoaaA0
import Derived.Maps.Own
import Derived.Maps.Views
import Derived.Maps.OwnSet
import Derived.Test.YteecgdbicokgoaaGrow
namespace Go.Proofs.Yteecgdbicokgoaa
open Go.RowKit Go.Maps
set_option linter.unusedVariables false
set_option linter.unusedSimpArgs false
set_option maxRecDepth 100000
theorem w64_stp {k n : Nat} (h : k < n) (hn : n ≤ 1000) : wrap64 ((k : Int) + 1) = (k : Int) + 1 := by unfold wrap64; omega
theorem meas_lt3 {n k : Nat} (h : k < n) : n - ((k : Int) + 1).toNat < n - ((k : Int)).toNat := by omega
def RV : Value → Option (DataW Value × List MemPlace) := fun v => some (.held v, [])
def kyI (n : Nat) : Lit := .int .i64 n
theorem kyI_key (n : Nat) : WideAt.IsKeyLit (kyI n) := trivial
theorem kyI_ne {a b : Nat} (h : a ≠ b) : kyI a ≠ kyI b := fun e => by
  unfold kyI at e
  injection e with _ e
  omega
theorem key_int (n : Nat) (hn : n ≤ 1000) : keyOf Try.prog 3 (.int .i64 n) = some (kyI n) := by
  unfold keyOf kyI
  simp [Try.underlying3, mapKey]
  have h1 : IntKind.i64.min = -9223372036854775808 := rfl
  have h2 : IntKind.i64.max = 9223372036854775807 := rfl
  simp only [Lit.wf, Bool.and_eq_true, decide_eq_true_eq]
  omega
/-- How many tables the first i lists have. -/
def fT (cl : List Lc) (i : Nat) : Nat := ((cl.take i).map fun x => x.tabs.length).sum
theorem fT_zero (cl : List Lc) : fT cl 0 = 0 := by simp [fT]
theorem fT_succ {cl : List Lc} {i : Nat} {x : Lc} (h : cl[i]? = some x) : fT cl (i + 1) = fT cl i + x.tabs.length := by
  unfold fT
  rw [List.take_add_one, h, List.map_append, List.sum_append]
  simp
theorem fT_step (cl : List Lc) (i : Nat) : fT cl i ≤ fT cl (i + 1) := by
  cases h : cl[i]? with
  | none =>
    unfold fT
    rw [List.take_add_one, h]
    simp
  | some x => rw [fT_succ h]; omega
theorem fT_mono (cl : List Lc) {i j : Nat} (h : i ≤ j) : fT cl i ≤ fT cl j := by
  induction j with
  | zero => obtain rfl : i = 0 := by omega
            exact Nat.le_refl _
  | succ j ih =>
    rcases Nat.lt_or_ge i (j + 1) with h1 | h1
    · exact Nat.le_trans (ih (by omega)) (fT_step cl j)
    · obtain rfl : i = j + 1 := by omega
      exact Nat.le_refl _
abbrev pvV (a b : Nat) : Value := .agg #[.int .i64 a, .int .i64 b]
/-- The table b of the list a has this number, and was met ahead of the table k of the list i. -/
def Pl (cl : List Lc) (i k key a b : Nat) : Prop := (a < i ∨ (a = i ∧ b < k)) ∧ key = fT cl a + b ∧ ∃ x, cl[a]? = some x ∧ b < x.tabs.length ∧ x.stim = false
theorem Pl.lt {cl : List Lc} {i k key a b : Nat} (h : Pl cl i k key a b) : key < fT cl i + k := by
  obtain ⟨h1, rfl, x, hx, hb, -⟩ := h
  rcases h1 with h1 | ⟨rfl, h1⟩
  · have h2 := fT_succ hx
    have h3 := fT_mono cl (show a + 1 ≤ i from h1)
    omega
  · omega
/-- The map of places. -/
def GM (w : World) (m : Nat) (cl : List Lc) (i k : Nat) : Prop := ∃ n D, n ≤ fT cl i + k ∧ w.ownsMap Try.prog 3 RV m n D ∧ ∀ key a b, Pl cl i k key a b → ∀ z, D.atKey (kyI key) z = .held (pvV a b)
theorem GM.lt {w : World} {m : Nat} {cl : List Lc} {i k : Nat} (h : GM w m cl i k) : m < w.heap.size := by
  obtain ⟨n, D, -, h, -⟩ := h
  exact h.lt
theorem GM.kept {w w' : World} {m : Nat} {cl : List Lc} {i k : Nat} (h : GM w m cl i k) (hk : w'.heap[m]? = w.heap[m]?) : GM w' m cl i k := by
  obtain ⟨n, D, hn, ho, hs⟩ := h
  obtain ⟨es, clock, hm, F, hz, hD⟩ := ho
  exact ⟨n, D, hn, ⟨es, clock, hk.trans hm, F, hz, hD⟩, hs⟩
theorem GM.below {w w' : World} {m : Nat} {cl : List Lc} {i k : Nat} (h : GM w m cl i k) (hb : Below w.heap.size w w') : GM w' m cl i k := h.kept (hb.block m h.lt)
theorem GM.grown {w w' : World} {m : Nat} {cl : List Lc} {i k : Nat} {row : Option Nat} (h : GM w m cl i k) (hg : w.grownBy w' row) (hne : some m ≠ row) : GM w' m cl i k := h.kept (hg.block m h.lt hne)
/-- A block of cells is not the map's. -/
theorem GM.ne {w : World} {m : Nat} {cl : List Lc} {i k : Nat} (h : GM w m cl i k) {g : Nat} {t : TypeId} {cs : Array Value} (hB : Blk w g t cs) : m ≠ g := fun e => by
  obtain ⟨n, D, -, ⟨es, clock, hm, -⟩, -⟩ := h
  unfold Blk at hB
  rw [← e, hm] at hB
  cases hB
theorem GM.made (w : World) (cl : List Lc) : GM (w.alloc (.map #[] 0)) w.heap.size cl 0 0 :=
  ⟨0, .map [], Nat.zero_le _, World.ownsMap_made w Try.prog 3 RV, fun key a b h => by have := h.lt; rw [fT_zero] at this; omega⟩
theorem GM.put {w : World} {m : Nat} {cl : List Lc} {i k : Nat} (h : GM w m cl i k) {x : Lc} (hx : cl[i]? = some x) (hk : k < x.tabs.length) (hs : x.stim = false) (h16 : fT cl i + k ≤ 1000) :
    ∃ w', (Instr.mapUpdate 131 (.map (some m)) (.int .i64 ((fT cl i + k : Nat) : Int)) (pvV i k)).run Try.prog w = .ok () w' ∧ GM w' m cl i (k + 1) ∧ w.grownBy w' (some m) := by
  obtain ⟨n, D, hn, ho, hq⟩ := h
  have hty := ho.isMap
  obtain ⟨w', hrun, ho', hg⟩ := ho.update (int_keyed Try.underlying3) Try.underlying131 (by unfold maxLen; omega) (key_int (fT cl i + k) h16) (show RV (pvV i k) = some (.held (pvV i k), []) from rfl)
  refine ⟨w', hrun, ⟨n + 1, _, by omega, ho', fun key a b hP z => ?_⟩, hg⟩
  by_cases hab : a = i ∧ b = k
  · obtain ⟨rfl, rfl⟩ := hab
    obtain ⟨-, rfl, -⟩ := hP
    exact atKey_put_same hty (kyI_key _) _ _
  · have hP' : Pl cl i k key a b := ⟨by have := hP.1; omega, hP.2⟩
    rw [atKey_put_other (kyI_ne (by have := hP'.lt; omega))]
    exact hq key a b hP' z
theorem GM.skip {w : World} {m : Nat} {cl : List Lc} {i k : Nat} (h : GM w m cl i k) {x : Lc} (hx : cl[i]? = some x) (hs : x.stim = true) : GM w m cl i (k + 1) := by
  obtain ⟨n, D, hn, ho, hq⟩ := h
  refine ⟨n, D, by omega, ho, fun key a b hP z => hq key a b ⟨?_, hP.2⟩ z⟩
  have h1 := hP.1
  rcases h1 with h1 | ⟨rfl, h1⟩
  · exact .inl h1
  · obtain ⟨-, -, y, hy, -, hys⟩ := hP
    rw [hx] at hy
    injection hy with hy
    subst hy
    rw [hs] at hys
    cases hys
theorem GM.next {w : World} {m : Nat} {cl : List Lc} {i : Nat} {x : Lc} (hx : cl[i]? = some x) (h : GM w m cl i x.tabs.length) : GM w m cl (i + 1) 0 := by
  obtain ⟨n, D, hn, ho, hq⟩ := h
  refine ⟨n, D, by rw [fT_succ hx]; omega, ho, fun key a b hP z => hq key a b ⟨?_, hP.2⟩ z⟩
  have h1 := hP.1
  obtain ⟨-, -, y, hy, hb, -⟩ := hP
  rcases (by omega : a < i ∨ a = i) with h | rfl
  · exact .inl h
  · rw [hx] at hy
    injection hy with hy
    subst hy
    exact .inr ⟨rfl, hb⟩
theorem zero136 (w : World) : (zeroValue 136).run Try.prog w = .ok (.agg #[.int .i64 0, .int .i64 0]) w := by kernel_rfl
theorem GM.look {w : World} {m : Nat} {cl : List Lc} {i k : Nat} (h : GM w m cl i k) {key a b : Nat} (hP : Pl cl i k key a b) (h1 : key ≤ 1000) : (Instr.lookup 131 (.map (some m)) (.int .i64 key) true).run Try.prog w = .ok (.tuple #[pvV a b, .bool true]) w := by
  obtain ⟨N, D, hN, ⟨es, clock, hm, F, hs, hD⟩, hq⟩ := h
  have hat := hq key a b hP
  rw [hD] at hat
  rcases Maps.fit_look true (int_keyed Try.underlying3) Try.underlying131 (zero136 w) hm F (key_int key h1) with ⟨hrun, _, hz⟩ | ⟨e0, y, _, _, hrun, hRv, hy, _⟩
  · have h1 := hat .nil
    rw [hz .nil] at h1
    cases h1
  · rw [hrun]
    have hyv : y = (.held e0.val, []) := by
      unfold RV at hRv
      injection hRv with hRv
      exact hRv.symm
    have h1 := hat .nil
    rw [hy .nil, hyv] at h1
    injection h1 with h1
    rw [h1]
    rfl
/-- Bytes as they lie. -/
structure Bz where
  A : Option Addr
  c : Nat
  bs : List Int
abbrev Bz.v (b : Bz) : Value := .slice b.A b.bs.length b.c
def BzAt (w : World) (base : Nat) (b : Bz) : Prop := Own w base 5 1 b.A b.bs.length b.c (u8s b.bs)
/-- What came of a list. -/
structure Og where
  A : Option Addr
  c : Nat
  l : List Bz
  lost : Bool
  many : Nat
abbrev Og.cs (o : Og) : List Value := [.slice o.A o.l.length o.c, .bool o.lost, .int .i64 o.many]
abbrev ogcells (l : List Og) : List Value := flatC Og.cs l
def OgAt (w : World) (base : Nat) (o : Og) : Prop := Own w base 22 1 o.A o.l.length o.c (o.l.map Bz.v) ∧ ∀ b ∈ o.l, BzAt w base b
structure GAc (w : World) (base g : Nat) (cl : List Lc) (os : List Og) (m : Nat) (A : Option Addr) (c : Nat) : Prop where
  b : Blk w g 134 #[.map (some m), .slice A os.length c]
  gb : base ≤ g
  mb : base ≤ m
  map : GM w m cl cl.length 0
  row : Own w base 138 3 A os.length c (ogcells os)
  os : ∀ o ∈ os, OgAt w base o
def GAt (w : World) (base g : Nat) (cl : List Lc) (os : List Og) : Prop := ∃ m A c, GAc w base g cl os m A c
theorem OgAt.chF {w w' : World} {base : Nat} {o : Og} (h : OgAt w base o) {F : Nat → Prop} (hc : Chg F w w') (hF : ∀ i, F i → i < w.heap.size → i < base ∨ ∃ t cs, Blk w i t cs ∧ t ≠ 22 ∧ t ≠ 5) : OgAt w' base o := by
  refine ⟨h.1.chg hc fun g hg hx => ?_, fun b hb => (h.2 b hb).chg hc fun g hg hx => ?_⟩
  · have hl := h.1.lt hg
    rcases hF g hx hl.2 with h1 | ⟨t, cs, h1, h2, h3⟩
    · omega
    · exact h.1.ne_blk hg h1 (Ne.symm h2) rfl
  · have hl := (h.2 b hb).lt hg
    rcases hF g hx hl.2 with h1 | ⟨t, cs, h1, h2, h3⟩
    · omega
    · exact (h.2 b hb).ne_blk hg h1 (Ne.symm h3) rfl
theorem GAt.chF {w w' : World} {base g : Nat} {cl : List Lc} {os : List Og} (h : GAt w base g cl os) {F : Nat → Prop} (hc : Chg F w w') (hF : ∀ i, F i → i < w.heap.size → i < base ∨ ∃ t cs, Blk w i t cs ∧ t ≠ 134 ∧ t ≠ 138 ∧ t ≠ 22 ∧ t ≠ 5) : GAt w' base g cl os := by
  obtain ⟨m, A, c, h⟩ := h
  refine ⟨m, A, c, h.b.chg hc fun hx => ?_, h.gb, h.mb, h.map.kept (hc.block m h.map.lt fun hx => ?_), h.row.chg hc fun q hg hx => ?_, fun o ho => (h.os o ho).chF hc fun i hi hl => ?_⟩
  · rcases hF g hx h.b.lt with h1 | ⟨t, cs, h1, h2, -⟩
    · have := h.gb; omega
    · exact h2 (blk_ty h1 h.b)
  · rcases hF m hx h.map.lt with h1 | ⟨t, cs, h1, -⟩
    · have := h.mb; omega
    · exact h.map.ne h1 rfl
  · have hl := h.row.lt hg
    rcases hF q hx hl.2 with h1 | ⟨t, cs, h1, h2, h3, -⟩
    · omega
    · exact h.row.ne_blk hg h1 (Ne.symm h3) rfl
  · rcases hF i hi hl with h1 | ⟨t, cs, h1, h2, h3, h4, h5⟩
    · exact .inl h1
    · exact .inr ⟨t, cs, h1, h4, h5⟩
theorem GAt.below {w w' : World} {base g : Nat} {cl : List Lc} {os : List Og} (h : GAt w base g cl os) (hb : Below w.heap.size w w') : GAt w' base g cl os := h.chF (Chg.of_below hb (fun _ => False)) fun i hi _ => hi.elim
/-- Of each list nothing came yet. -/
def og0 (x : Lc) : Og := ⟨none, 0, [], false, x.tabs.length⟩
theorem og0_at (w : World) (base : Nat) (x : Lc) : OgAt w base (og0 x) := ⟨Own.nil _ _ _ _, fun b hb => by cases hb⟩
theorem info138 : (Try.prog.info? 138).map (fun i => (i.zero, i.size, i.bytes)) = some (some (.agg #[.slice none 0 0, .bool false, .int .i64 0]), 3, 40) := by kernel_rfl
def GNewP (w : World) (cl : List Lc) (e : Ending) (w' : World) : Prop := ∃ g, e = .returned (.pointer (some ⟨g, 0, none⟩)) ∧ GAt w' w.heap.size g cl (cl.map og0) ∧ Below w.heap.size w w'
theorem ogcells_snoc (l : List Og) (x : Og) : ogcells (l ++ [x]) = ogcells l ++ x.cs := by
  unfold ogcells
  rw [flatC_app]
  simp [flatC]
theorem og0_snoc {cl : List Lc} {i : Nat} {x : Lc} (h : cl[i]? = some x) : (cl.take (i + 1)).map og0 = (cl.take i).map og0 ++ [og0 x] := by
  rw [List.take_add_one, h]
  simp
set_option maxHeartbeats 8000000 in
theorem gnew_any {w : World} {A : Option Addr} {n c : Nat} {cl : List Lc} (hl : cl.length = n) (hn : n ≤ 4) (hm : fT cl n ≤ 16) (hr : Rd w w.heap.size A (lcells cl)) : Calls Try.prog 23 #[.slice A n c] w (GNewP w cl) := by
  have hmm := @run_makeMap Try.prog
  obtain ⟨base, hbase⟩ : ∃ base, w.heap.size = base := ⟨_, rfl⟩
  have M0 : GM ((w.alloc (.map #[] 0)).alloc (.cells #[.map (some base), .slice none 0 0] 134)) base cl 0 0 := by
    have := (GM.made w cl).below (bl1 _ (.cells #[.map (some base), .slice none 0 0] 134))
    rwa [hbase] at this
  have T0 : Blk ((w.alloc (.map #[] 0)).alloc (.cells #[.map (some base), .slice none 0 0] 134)) (base + 1) 134 #[.map (some base), .slice none 0 0] := by
    have := Blk.new (w.alloc (.map #[] 0)) 134 #[.map (some base), .slice none 0 0]
    rwa [World.size_alloc, hbase] at this
  have hb0 := bl2 w (.map #[] 0) (.cells #[.map (some base), .slice none 0 0] 134)
  rw [hbase] at hb0
  have HS := Lib.hid (And.intro M0 (And.intro T0 hb0))
  have HL := Lib.hid (And.intro hl (And.intro hm (And.intro hr hbase)))
  clear M0 T0 hb0 hl hm hr
  go_enter Try.func23, Try.ntmps23
  go_wp2_with fail
  try rw [hbase]
  clear hmm hbase
  go_loopw [4, 13] (fun nv iv wr => ∃ (i N : Nat) (A1 : Option Addr) (c1 : Nat), i ≤ n ∧ N = fT cl i ∧ nv = .int .i64 N ∧ iv = .int .i64 i ∧ GM wr base cl i 0 ∧ Blk wr (base + 1) 134 #[.map (some base), .slice A1 i c1] ∧ Own wr base 138 3 A1 i c1 (ogcells ((cl.take i).map og0)) ∧ Below base w wr) (fun _ iv _ => n - (intOf iv).toNat)
  case atStart => exact ⟨0, 0, none, 0, Nat.zero_le _, (fT_zero cl).symm, rfl, rfl, HS.out.1, HS.out.2.1, Own.nil _ _ _ _, HS.out.2.2⟩
  case round =>
    obtain ⟨i, N, A1, c1, hi, hN, rfl, rfl, hM, hB, hO, hb⟩ := hrel
    clear HS
    by_cases hlt : i < n
    · have hltI : (i : Int) < n := by omega
      obtain ⟨x, hx⟩ : ∃ x, cl[i]? = some x := ⟨_, List.getElem?_eq_getElem (by rw [HL.out.1]; exact hlt)⟩
      have hrd : Rd wr w.heap.size A (lcells cl) := HL.out.2.2.1.below (by rw [HL.out.2.2.2]; exact hb)
      obtain ⟨g, o, rfl, -, hc⟩ := hrd (by
        intro e
        have h1 := lcells_len cl
        rw [e, HL.out.1] at h1
        simp at h1
        omega)
      have c0 := hc _ _ (lcells_at hx (j := 0) rfl)
      have c1' := hc _ _ (lcells_at hx (j := 1) rfl)
      have c2 := hc _ _ (lcells_at hx (j := 2) rfl)
      have c3 := hc _ _ (lcells_at hx (j := 3) rfl)
      have c4 := hc _ _ (lcells_at hx (j := 4) rfl)
      have c5 := hc _ _ (lcells_at hx (j := 5) rfl)
      have c6 := hc _ _ (lcells_at hx (j := 6) rfl)
      have c7 := hc _ _ (lcells_at hx (j := 7) rfl)
      simp only [← Nat.add_assoc, Nat.add_zero] at c0 c1' c2 c3 c4 c5 c6 c7
      have htot : fT cl i + x.tabs.length ≤ 16 := by
        have h1 := fT_succ hx
        have h2 := fT_mono cl (show i + 1 ≤ n from hlt)
        have h3 := HL.out.2.1
        omega
      obtain ⟨T, hT⟩ : ∃ T, x.tabs.length = T := ⟨_, rfl⟩
      have hog : og0 x = ⟨none, 0, [], false, T⟩ := by rw [← hT]; rfl
      have HX := Lib.hid (And.intro hx (And.intro hT (And.intro htot (And.intro hN hog))))
      obtain ⟨xA, xc, tabs, first, stim, ev, pre, pri, on, ch⟩ := x
      simp only at c0 c1' c2 c3 c4 c5 c6 c7 hT
      rw [hT] at c1'
      have hb1 := bl1 wr (.cells #[.int .i64 first, .slice xA T xc, .bool stim, .int .u8 ev, .int .u8 pre, .int .u8 pri, .bool on, .bool ch] 71)
      have BX := Blk.new wr 71 #[.int .i64 first, .slice xA T xc, .bool stim, .int .u8 ev, .int .u8 pre, .int .u8 pri, .bool on, .bool ch]
      have cx := BX.cell
      have HI := Lib.hid (And.intro hM (And.intro hB (And.intro hO (And.intro hb (And.intro hb1 BX)))))
      have HSZ : Hid (base ≤ wr.heap.size) := by have h1 := hb.size; have h2 := HL.out.2.2.2; show _ ≤ _; omega
      clear hM hB hO hb hb1 BX hc hrd hx htot hog hT hN
      go_wp2_with fail
      clear c0 c1' c2 c3 c4 c5 c6 c7 cx
      obtain ⟨gx, hgx⟩ : ∃ gx, wr.heap.size = gx := ⟨_, rfl⟩
      try rw [hgx]
      have HGX := Lib.hid hgx
      clear hgx
      generalize wr = wo at *
      go_loopw [4, 21] (fun nv iv wx => ∃ (k N' : Nat), k ≤ T ∧ N' = fT cl i + k ∧ nv = .int .i64 N' ∧ iv = .int .i64 k ∧ GM wx base cl i k ∧ Blk wx (base + 1) 134 #[.map (some base), .slice A1 i c1] ∧ Own wx base 138 3 A1 i c1 (ogcells ((cl.take i).map og0)) ∧ Blk wx gx 71 #[.int .i64 first, .slice xA T xc, .bool stim, .int .u8 ev, .int .u8 pre, .int .u8 pri, .bool on, .bool ch] ∧ Below base w wx) (fun _ iv _ => T - (intOf iv).toNat)
      case atStart =>
        obtain ⟨h1, h2, h3, h4, h5, h6⟩ := HI.out
        exact ⟨0, N, Nat.zero_le _, by rw [HX.out.2.2.2.1]; rfl, rfl, rfl, h1.below h5, h2.below h5, h3.below h5, by rw [← HGX.out]; exact h6, h4.trans (h5.mono HSZ.out)⟩
      case round =>
        obtain ⟨k, N', hk, hN', rfl, rfl, hM, hB, hO, hX, hb⟩ := hrel
        generalize wr = wx at *
        by_cases hkt : k < T
        · have hktI : (k : Int) < T := by omega
          have cx := hX.cell
          have cb := hB.cell
          have h16 := HX.out.2.2.1
          have hT1 := HX.out.2.1
          try simp only at h16 hT1
          have hN6 : N' ≤ 16 := by omega
          cases stim
          · obtain ⟨w3, hrun, hM3, hg3⟩ := hM.put HX.out.1 (by simp only; omega) rfl (by omega)
            rw [← hN'] at hrun
            have hne : ∀ {q : Nat} {t : TypeId} {cs : Array Value}, Blk wx q t cs → some q ≠ some base := fun hq e => by
              injection e with e
              exact hM.ne hq e.symm
            have R3 := Lib.hid (And.intro hM3 (And.intro (hB.grown hg3 (hne hB)) (And.intro (hO.grown hg3 (by
              rcases hA : blkOf A1 with _ | q
              · exact .inl rfl
              · obtain ⟨cs, hq⟩ := hO.row hA
                exact .inr (hne hq))) (And.intro (hX.grown hg3 (hne hX)) (hb.grown hg3 (by have h1 := hb.size; have h2 := HL.out.2.2.2; omega) (fun q hq => by injection hq with hq; omega))))))
            have HN' := Lib.hid hN'
            have hN17 : N' < 17 := by omega
            have hT99 : T ≤ 999 := by omega
            clear hM hB hO hX hb hne hM3 hg3 h16 hT1 hN'
            have hn1 := w64_stp (k := N') (n := 17) hN17 (by decide)
            have hk1 := w64_stp hkt (Nat.le_trans hT99 (by decide))
            go_wp2_with fail
            have HJ := Lib.hid (And.intro hk1 hn1)
            clear hk1 hn1
            have hN1 : N' + 1 = fT cl i + (k + 1) := by have := HN'.out; omega
            obtain ⟨hk1, hn1⟩ := HJ.out
            go_roundw
            case rel => exact ⟨k + 1, N' + 1, hkt, hN1, by first | rfl | (rw [hn1]; rfl), by first | rfl | (rw [hk1]; rfl), R3.out⟩
            case measure =>
              try rw [hk1]
              simp only [intOf]
              exact meas_lt3 hkt
          · have hM3 := hM.skip HX.out.1 rfl
            have R3 := Lib.hid (And.intro hM3 (And.intro hB (And.intro hO (And.intro hX hb))))
            have HN' := Lib.hid hN'
            have hN17 : N' < 17 := by omega
            have hT99 : T ≤ 999 := by omega
            clear hM hB hO hX hb hM3 h16 hT1 hN'
            have hn1 := w64_stp (k := N') (n := 17) hN17 (by decide)
            have hk1 := w64_stp hkt (Nat.le_trans hT99 (by decide))
            go_wp2_with fail
            have HJ := Lib.hid (And.intro hk1 hn1)
            clear hk1 hn1
            have hN1 : N' + 1 = fT cl i + (k + 1) := by have := HN'.out; omega
            obtain ⟨hk1, hn1⟩ := HJ.out
            go_roundw
            case rel => exact ⟨k + 1, N' + 1, hkt, hN1, by first | rfl | (rw [hn1]; rfl), by first | rfl | (rw [hk1]; rfl), R3.out⟩
            case measure =>
              try rw [hk1]
              simp only [intOf]
              exact meas_lt3 hkt
        · obtain rfl : k = T := by omega
          have hM' : GM wx base cl (i + 1) 0 := GM.next HX.out.1 (by rw [HX.out.2.1]; exact hM)
          have hNs : N' = fT cl (i + 1) := by rw [fT_succ HX.out.1, hN']; have := HX.out.2.1; simp only at this ⊢; omega
          have cx := hX.cell
          have cb := hB.cell
          have fb := hB.frozen
          have b1 := bl1 wx (.cells #[.slice none 0 0, .bool false, .int .i64 k] 138)
          have K1 := Blk.new wx 138 #[.slice none 0 0, .bool false, .int .i64 k]
          have cx1 := (hX.below b1).cell
          have cb1 := (hB.below b1).cell
          have fb1 := (hB.below b1).frozen
          have hsz : base ≤ wx.heap.size := by have h1 := hb.size; have h2 := HL.out.2.2.2; omega
          have hzz : base ≤ ((wx.alloc (.cells #[.slice none 0 0, .bool false, .int .i64 k] 138)).drew).heap.size := by simp; omega
          have hm1 : i + 1 ≤ maxLen := by unfold maxLen; omega
          have hm2 : (i + 1) * 40 ≤ 140737488355328 := by omega
          have WM := Lib.hid (hM'.below b1)
          have WB := Lib.hid (hB.below b1)
          have WO := Lib.hid (hO.below b1)
          have WR := Lib.hid (Blk.rd (cs := [.slice none 0 0, .bool false, .int .i64 k]) K1)
          have WW := Lib.hid (hb.trans (b1.mono hsz))
          have WN := Lib.hid hNs
          have hgA : some (base + 1) ≠ blkOf A1 := own_blk_ne WO.out WB.out (by decide)
          have hmr : base ≠ base + 1 := by omega
          clear hM hB hO hX hb hM' b1 K1 hN' hNs
          go_wp2_with fail
          go_region_law (first
            | (refine step_app _ rfl (.tmp 42) (.tmp 47) 132 rfl base 138 (.agg #[.slice none 0 0, .bool false, .int .i64 0]) 3 40 Try.underlying132 info138 rfl (by decide) A1 i c1 _ rfl (WO.out.drew) _ _ 1 1 [.slice none 0 0, .bool false, .int .i64 k] rfl rfl (WR.out.drew) (by intro u hu; simp at hu; rcases hu with rfl | rfl | rfl <;> rfl) hm1 hm2 hzz ?_; intro A5 c5 w5 ho5 hg5 hbk5; have B5 := (WB.out.drew).grown hg5 hgA; have b5 := B5.cell; have f5 := B5.frozen))
          all_goals
            have R : Hid (GM (w5.setCell ⟨base + 1, 1, none⟩ (.slice A5 (i + 1) c5)) base cl (i + 1) 0 ∧ Blk (w5.setCell ⟨base + 1, 1, none⟩ (.slice A5 (i + 1) c5)) (base + 1) 134 #[.map (some base), .slice A5 (i + 1) c5] ∧ Own (w5.setCell ⟨base + 1, 1, none⟩ (.slice A5 (i + 1) c5)) base 138 3 A5 (i + 1) c5 (ogcells ((cl.take (i + 1)).map og0)) ∧ Below base w (w5.setCell ⟨base + 1, 1, none⟩ (.slice A5 (i + 1) c5))) := Lib.hid (by
              have hgm : some base ≠ blkOf A1 := fun e => by
                obtain ⟨cs, hq⟩ := WO.out.row e.symm
                exact WM.out.ne hq rfl
              have hM5 := (WM.out.kept (w' := (wx.alloc (.cells #[.slice none 0 0, .bool false, .int .i64 k] 138)).drew) rfl).grown hg5 hgm
              have hO5 := ho5.far (p := ⟨base + 1, 1, none⟩) (fun e => by
                obtain ⟨cs, hq⟩ := ho5.row e
                have := blk_ty hq B5
                cases this) (.slice A5 (i + 1) c5)
              have hb5 : Below base w w5 := (WW.out.drew).grown hg5 hzz (fun q hq => (WO.out.lt hq).1)
              refine ⟨hM5.kept (Below.heap_setCell _ _ _ _ hmr), B5.set_ 1 _, ?_, hb5.setCell (p := ⟨base + 1, 1, none⟩) (by simp) _⟩
              rw [og0_snoc HX.out.1, ogcells_snoc, HX.out.2.2.2.2]
              exact hO5)
            have hks : wrap64 ((i : Int) + 1) = (i : Int) + 1 := w64_stp hlt (by omega)
            clear ho5 hg5 hbk5 B5 b5 f5
            go_wp2_with fail
            go_roundw
            case rel => exact ⟨i + 1, N', A5, c5, hlt, WN.out, rfl, by first | rfl | (rw [hks]; rfl), R.out⟩
            case measure =>
              try rw [hks]
              simp only [intOf]
              exact meas_lt3 hlt
    · obtain rfl : i = n := by omega
      have hcl : cl.take i = cl := List.take_of_length_le (by rw [HL.out.1]; exact Nat.le_refl _)
      have hwb := HL.out.2.2.2
      have hlen : ((cl.map og0).length) = i := by rw [List.length_map]; exact HL.out.1
      rw [hcl] at hO
      have FIN : Hid (GAt wr w.heap.size (base + 1) cl (cl.map og0) ∧ Below w.heap.size w wr) := by
        rw [hwb]
        refine ⟨⟨base, A1, c1, ?_, by omega, Nat.le_refl _, ?_, ?_, fun o ho => ?_⟩, hb⟩
        · rw [hlen]; exact hB
        · rw [HL.out.1]; exact hM
        · rw [hlen]; exact hO
        · obtain ⟨x, _, rfl⟩ := List.mem_map.1 ho
          exact og0_at _ _ _
      clear hM hB hO hb hwb hlen hcl hN
      go_wp2_with fail
      go_ret
      exact ⟨base + 1, rfl, FIN.out⟩
end Go.Proofs.Yteecgdbicokgoaa
namespace Go.Proofs.Yteecgdbicokgoaa
open Go.RowKit Go.Maps
set_option linter.unusedVariables false
set_option linter.unusedSimpArgs false
set_option maxRecDepth 100000
theorem ogcells_len (l : List Og) : (ogcells l).length = l.length * 3 := flatC_len Og.cs 3 l (fun _ _ => rfl)
theorem ogcells_at {l : List Og} {k : Nat} {t : Og} (h : l[k]? = some t) {j : Nat} {u : Value} (hu : t.cs[j]? = some u) : (ogcells l)[k * 3 + j]? = some u := flatC_at Og.cs 3 l (fun _ _ => rfl) k t h j u hu
theorem ogcells_set {os : List Og} {k : Nat} {o : Og} (ho : os[k]? = some o) (o' : Og) (j : Nat) (v : Value) (hj : j + 1 ≤ 3) (h : o'.cs = putL o.cs j [v]) : (ogcells os).set (k * 3 + j) v = ogcells (os.set k o') := by
  have := flatC_put Og.cs 3 os (fun _ _ => rfl) k o o' ho j [v] (by simpa using hj) h
  exact this
theorem GAc.cells {w : World} {base g : Nat} {cl : List Lc} {os : List Og} {m c : Nat} {gr orr : Nat} (h : GAc w base g cl os m (some ⟨gr, orr, none⟩) c) {k : Nat} {o : Og} (ho : os[k]? = some o) :
    w.cell? ⟨gr, orr + k * 3, none⟩ = some (.slice o.A o.l.length o.c) ∧ w.cell? ⟨gr, orr + k * 3 + 1, none⟩ = some (.bool o.lost) ∧ w.cell? ⟨gr, orr + k * 3 + 2, none⟩ = some (.int .i64 o.many) := by
  have h0 := h.row.cells _ _ (ogcells_at ho (j := 0) rfl)
  have h1 := h.row.cells _ _ (ogcells_at ho (j := 1) rfl)
  have h2 := h.row.cells _ _ (ogcells_at ho (j := 2) rfl)
  simp only [← Nat.add_assoc, Nat.add_zero] at h0 h1 h2
  exact ⟨h0, h1, h2⟩
theorem GAc.frz {w : World} {base g : Nat} {cl : List Lc} {os : List Og} {m c : Nat} {gr orr : Nat} (h : GAc w base g cl os m (some ⟨gr, orr, none⟩) c) : ∀ i, w.frozen? ⟨gr, i, none⟩ = false := h.row.frozen
/-- One cell of a record is written; what else is there stays. -/
theorem GAc.set_ {w : World} {base g : Nat} {cl : List Lc} {os : List Og} {m c : Nat} {gr orr : Nat} (h : GAc w base g cl os m (some ⟨gr, orr, none⟩) c) {k : Nat} {o : Og} (ho : os[k]? = some o) (o' : Og) (j : Nat) (v : Value) (hj : j + 1 ≤ 3) (hcs : o'.cs = putL o.cs j [v])
    (ho' : OgAt w base o') : GAc (w.setCell ⟨gr, orr + k * 3 + j, none⟩ v) base g cl (os.set k o') m (some ⟨gr, orr, none⟩) c := by
  obtain ⟨hk, hko⟩ := List.getElem?_eq_some_iff.1 ho
  have hOg : ∀ o2, OgAt w base o2 → OgAt (w.setCell ⟨gr, orr + k * 3 + j, none⟩ v) base o2 := fun o2 h2 =>
    h2.chF ((Chg.refl (fun i => i = gr) _).at_ (q := gr) (Eq.refl gr) _ _) fun i hi _ => by
      obtain ⟨cs, hcs⟩ := h.row.row (show blkOf (some ⟨gr, orr, none⟩) = some gr from rfl)
      exact .inr ⟨138, cs, by rw [hi]; exact hcs, by decide, by decide⟩
  obtain ⟨cs, hcsr⟩ := h.row.row (show blkOf (some ⟨gr, orr, none⟩) = some gr from rfl)
  refine ⟨?_, h.gb, h.mb, h.map.kept (Below.heap_setCell _ _ _ _ fun e => h.map.ne hcsr e), ?_, fun o2 h2 => ?_⟩
  · rw [List.length_set]
    exact h.b.far (p := ⟨gr, orr + k * 3 + j, none⟩) (fun e => h.row.ne_blk (g := gr) rfl h.b (by decide) e.symm) v
  · rw [List.length_set, ← ogcells_set ho o' j v hj hcs, Nat.add_assoc]
    exact h.row.set_ (k * 3 + j) (by omega) v
  · rcases List.mem_or_eq_of_mem_set h2 with h2 | rfl
    · exact hOg o2 (h.os o2 h2)
    · exact hOg _ ho'
theorem GAc.chT {w : World} {base g : Nat} {cl : List Lc} {os : List Og} {m c : Nat} {gr orr : Nat} (h : GAc w base g cl os m (some ⟨gr, orr, none⟩) c) {w0 : World} (hc : ChT base [138, 22] w0 w) (p : Nat) (v : Value) : ChT base [138, 22] w0 (w.setCell ⟨gr, p, none⟩ v) := by
  obtain ⟨cs, hcsr⟩ := h.row.row (show blkOf (some ⟨gr, orr, none⟩) = some gr from rfl)
  exact hc.set_ hcsr (by simp) (h.row.lt rfl).1 v
theorem GAc.at_ {w : World} {base g : Nat} {cl : List Lc} {os : List Og} {m c : Nat} {A : Option Addr} (h : GAc w base g cl os m A c) (hn : 0 < os.length) : ∃ gr orr, A = some ⟨gr, orr, none⟩ := h.row.at_ hn
theorem GAc.below {w w' : World} {base g : Nat} {cl : List Lc} {os : List Og} {m c : Nat} {A : Option Addr} (h : GAc w base g cl os m A c) (hb : Below w.heap.size w w') : GAc w' base g cl os m A c :=
  ⟨h.b.below hb, h.gb, h.mb, h.map.below hb, h.row.below hb, fun o ho => ⟨(h.os o ho).1.below hb, fun b hbm => ((h.os o ho).2 b hbm).below hb⟩⟩
/-- The records but one are shut. -/
def Shut1 (os : List Og) (k : Nat) : Prop := ∀ i o, i ≠ k → os[i]? = some o → o.A = none ∧ o.c = 0 ∧ o.l = []
/-- A new row for the record that is open. -/
theorem GAc.renew {w w' : World} {base g : Nat} {cl : List Lc} {os : List Og} {m c : Nat} {gr orr : Nat} (h : GAc w base g cl os m (some ⟨gr, orr, none⟩) c) {k : Nat} {o : Og} (ho : os[k]? = some o) (hs : Shut1 os k) {row : Option Nat} (hg : w.grownBy w' row)
    (hrow : row = none ∨ ∃ q cs, row = some q ∧ Blk w q 22 cs) (o' : Og) (hl : o'.lost = o.lost) (hm : o'.many = o.many) (ho' : OgAt w' base o') :
    GAc (w'.setCell ⟨gr, orr + k * 3, none⟩ (.slice o'.A o'.l.length o'.c)) base g cl (os.set k o') m (some ⟨gr, orr, none⟩) c := by
  obtain ⟨hk, hko⟩ := List.getElem?_eq_some_iff.1 ho
  have hnb : ∀ {q : Nat} {t : TypeId} {cs : Array Value}, Blk w q t cs → t ≠ 22 → some q ≠ row := fun hq ht e => by
    rcases hrow with h | ⟨r, cs', h, hr⟩
    · rw [h] at e; cases e
    · rw [h] at e
      injection e with e
      subst e
      exact ht (blk_ty hq hr)
  obtain ⟨cs, hcsr⟩ := h.row.row (show blkOf (some ⟨gr, orr, none⟩) = some gr from rfl)
  have hB := h.b.grown hg (hnb h.b (by decide))
  have hM := h.map.grown hg (fun e => by
    rcases hrow with h' | ⟨r, cs', h', hr⟩
    · rw [h'] at e; cases e
    · rw [h'] at e
      injection e with e
      exact h.map.ne hr e)
  have hR := h.row.grown hg (.inr (fun e => hnb hcsr (by decide) e))
  have hcsr' := hcsr.grown hg (hnb hcsr (by decide))
  have hcs : o'.cs = putL o.cs 0 [.slice o'.A o'.l.length o'.c] := by
    simp only [Og.cs, putL, List.set_cons_zero, hl, hm]
  have hOg : ∀ o2, OgAt w' base o2 → OgAt (w'.setCell ⟨gr, orr + k * 3, none⟩ (.slice o'.A o'.l.length o'.c)) base o2 := fun o2 h2 =>
    h2.chF ((Chg.refl (fun i => i = gr) _).at_ (q := gr) (Eq.refl gr) _ _) fun i hi _ => .inr ⟨138, cs, by rw [hi]; exact hcsr', by decide, by decide⟩
  refine ⟨?_, h.gb, h.mb, hM.kept (Below.heap_setCell _ _ _ _ fun e => hM.ne hcsr' e), ?_, fun o2 h2 => ?_⟩
  · rw [List.length_set]
    exact hB.far (p := ⟨gr, orr + k * 3, none⟩) (fun e => h.row.ne_blk (g := gr) rfl h.b (by decide) e.symm) _
  · rw [List.length_set, ← ogcells_set ho o' 0 _ (by decide) hcs]
    exact hR.set_ (k * 3 + 0) (by omega) _
  · obtain ⟨i, hi⟩ := List.mem_iff_getElem?.1 h2
    by_cases hik : i = k
    · subst hik
      rw [List.getElem?_set_self hk] at hi
      injection hi with hi
      subst hi
      exact hOg _ ho'
    · rw [List.getElem?_set_ne (Ne.symm hik)] at hi
      obtain ⟨e1, e2, e3⟩ := hs i o2 hik hi
      refine ⟨?_, fun b hb => by rw [e3] at hb; cases hb⟩
      rw [e1, e2, e3]
      exact Own.nil _ _ _ _
end Go.Proofs.Yteecgdbicokgoaa
