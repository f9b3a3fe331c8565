/- Lists of names; few. -/
import Derived.Test.YtmcmlglacblkiaaY1
namespace Go.Proofs.Ytmcmlglacblkiaa
open Go.RowKit
set_option linter.unusedVariables false
set_option linter.unusedSimpArgs false
/-- Names, cell by cell. -/
def cellsS : List Sy → List Value
  | [] => []
  | s :: l => .string s.nm :: .int .u8 s.ar :: .int .u32 s.at_ :: .int .i64 s.wd :: .bool s.bg :: .bool s.sg :: .int .i32 s.mu :: .int .i32 s.ad :: cellsS l
theorem cellsS_len : ∀ l : List Sy, (cellsS l).length = l.length * 8
  | [] => rfl
  | t :: l => by simp only [cellsS, List.length_cons, cellsS_len l]; omega
theorem cellsS_app : ∀ l m : List Sy, cellsS (l ++ m) = cellsS l ++ cellsS m
  | [], m => rfl
  | t :: l, m => by simp [cellsS, cellsS_app l m]
theorem cellsS_drop : ∀ (l : List Sy) (k : Nat), (cellsS l).drop (k * 8) = cellsS (l.drop k)
  | l, 0 => by simp
  | [], k + 1 => by simp [cellsS]
  | t :: l, k + 1 => by
    rw [show (k + 1) * 8 = k * 8 + 1 + 1 + 1 + 1 + 1 + 1 + 1 + 1 by omega]
    simp only [cellsS, List.drop_succ_cons]
    exact cellsS_drop l k
theorem cellsS_get (l : List Sy) (k : Nat) (s : Sy) (h : l[k]? = some s) (i : Nat) (v : Value) (hv : s.cs[i]? = some v) : (cellsS l)[k * 8 + i]? = some v := by
  have hd := cellsS_drop l k
  obtain ⟨m, hm⟩ : ∃ m, l.drop k = s :: m := by
    obtain ⟨hk, e⟩ := List.getElem?_eq_some_iff.1 h
    exact ⟨l.drop (k + 1), by rw [List.drop_eq_getElem_cons hk, e]⟩
  rw [hm] at hd
  rw [← List.getElem?_drop, hd]
  match i, hv with
  | 0, hv => exact hv
  | 1, hv => exact hv
  | 2, hv => exact hv
  | 3, hv => exact hv
  | 4, hv => exact hv
  | 5, hv => exact hv
  | 6, hv => exact hv
  | 7, hv => exact hv
  | i + 8, hv => simp [Sy.cs] at hv
theorem cellsS_one (l : List Sy) : ∀ u ∈ cellsS l, u.oneCell' = true := by
  induction l with
  | nil => intro u h; cases h
  | cons t l ih =>
    intro u h
    simp only [cellsS, List.mem_cons] at h
    rcases h with rfl | rfl | rfl | rfl | rfl | rfl | rfl | rfl | h
    all_goals first | rfl | exact ih u h
theorem info24 : (Try.prog.info? 24).map (fun i => (i.zero, i.size, i.bytes)) = some (some (.agg #[.string ByteArray.empty, .int .u8 0, .int .u32 0, .int .i64 0, .bool false, .bool false, .int .i32 0, .int .i32 0]), 8, 48) := by kernel_rfl
/-- A name as the laws take it. -/
def cut (s : Sy) : Sy := { s with nm := s.nm.extract 0 (min s.nm.size 40) }
def fewS (l : List Sy) : List Sy := (l.take 70).map cut
theorem Rd.new (w : World) (vs : List Value) (t : TypeId) : Rd (w.alloc (.cells vs.toArray t)) (w.heap.size + 1) (some ⟨w.heap.size, 0, none⟩) vs := fun _ =>
  ⟨w.heap.size, 0, rfl, by omega, fun i v hv => by
    rw [World.cell?_alloc_at _ _ _ _ rfl]
    simpa using hv⟩
theorem fewS_snoc (l : List Sy) (k : Nat) (s : Sy) (h : l[k]? = some s) (hk : k < 70) : fewS (l.take (k + 1)) = fewS (l.take k) ++ [cut s] := by
  obtain ⟨hl, rfl⟩ := List.getElem?_eq_some_iff.1 h
  unfold fewS
  rw [List.take_take, List.take_take, show min 70 (k + 1) = k + 1 by omega, show min 70 k = k by omega, List.take_succ_eq_append_getElem hl, List.map_append]
  rfl
theorem fewS_full (l : List Sy) (k : Nat) (hk : 70 ≤ k) : fewS (l.take (k + 1)) = fewS (l.take k) := by
  unfold fewS
  rw [List.take_take, List.take_take, show min 70 (k + 1) = 70 by omega, show min 70 k = 70 by omega]
theorem fewS_len (l : List Sy) : (fewS l).length = min 70 l.length := by unfold fewS; simp
def FewP (w : World) (l : List Sy) (e : Ending) (w' : World) : Prop := ∃ A m c, e = .returned (.slice A m c) ∧ m = (fewS l).length ∧ Own w' w.heap.size 24 8 A m c (cellsS (fewS l)) ∧ Below w.heap.size w w'
/-- The cells of one name of a row. -/
theorem rd_row {w : World} {B : Nat} {A : Option Addr} {l : List Sy} (h : Rd w B A (cellsS l)) (hne : l ≠ []) : ∃ b o, A = some ⟨b, o, none⟩ ∧ b < B ∧ ∀ k s, l[k]? = some s → ∀ i v, s.cs[i]? = some v → w.cell? ⟨b, o + (k * 8 + i), none⟩ = some v := by
  obtain ⟨b, o, e, hb, hc⟩ := h (by cases l with
    | nil => exact absurd rfl hne
    | cons t l => simp [cellsS])
  exact ⟨b, o, e, hb, fun k s hk i v hv => hc _ _ (cellsS_get l k s hk i v hv)⟩
theorem extract_all (s : ByteArray) : s.extract 0 s.size = s := by simp
theorem rdnew2 (w : World) (o : Obj) (vs : List Value) (t : TypeId) : Rd ((w.alloc o).alloc (.cells vs.toArray t)) (w.heap.size + 1 + 1) (some ⟨w.heap.size + 1, 0, none⟩) vs := by
  have := Rd.new (w.alloc o) vs t
  simpa using this
set_option maxHeartbeats 8000000 in
theorem few_any (A : Option Addr) (n c : Nat) (l : List Sy) (w : World) (hx : l.length = n) (hr : Rd w w.heap.size A (cellsS l)) (hl : n ≤ maxLen) (hwf : ∀ s ∈ l, s.wf) :
    Calls Try.prog 9 #[.slice A n c] w (FewP w l) := by
  unfold maxLen at hl
  have HX := Lib.hid hx
  have HWF := Lib.hid hwf
  have HR : Hid (∀ W, Below w.heap.size w W → ∀ k s, l[k]? = some s → ∃ b o, A = some ⟨b, o, none⟩ ∧ ∀ i v, s.cs[i]? = some v → W.cell? ⟨b, o + (k * 8 + i), none⟩ = some v) := fun W hW k s hk => by
    obtain ⟨b, o, e, hb, hc⟩ := rd_row hr (by intro h; rw [h] at hk; cases hk)
    exact ⟨b, o, e, fun i v hv => (hW.cell (p := ⟨b, o + (k * 8 + i), none⟩) hb).trans (hc k s hk i v hv)⟩
  clear hx hr hwf
  go_enter Try.func9, Try.ntmps9
  go_wp2_with fail
  go_loopw [3, 8] (fun ov iv wx => ∃ (k m : Nat) (B : Option Addr) (d : Nat), k ≤ n ∧ m = (fewS (l.take k)).length ∧ ov = .slice B m d ∧ iv = .int .i64 (k : Nat) ∧ Own wx w.heap.size 24 8 B m d (cellsS (fewS (l.take k))) ∧ Below w.heap.size w wx) (fun _ iv _ => n - (intOf iv).toNat)
  case atStart => exact ⟨0, 0, none, 0, Nat.zero_le _, rfl, rfl, rfl, Own.nil _ _ _ _, Below.refl _ _⟩
  case round =>
    obtain ⟨k, m, B, d, hk, hm, rfl, rfl, ho, hb⟩ := hrel
    have hz := hb.size
    have HM := Lib.hid hm
    have hm70 : m ≤ 70 := by rw [hm, fewS_len]; omega
    clear hm
    by_cases hlt : k < n
    · have hltI : (k : Int) < n := by omega
      obtain ⟨s, hs⟩ : ∃ s, l[k]? = some s := ⟨_, List.getElem?_eq_getElem (by rw [HX.out]; exact hlt)⟩
      obtain ⟨b, o, rfl, hcc⟩ := HR.out wr hb k s hs
      have hsw := HWF.out s (List.mem_of_getElem? hs)
      have hnm := hsw.nm
      have HS := Lib.hid hs
      have HF1 : Hid (k < 70 → fewS (l.take (k + 1)) = fewS (l.take k) ++ [cut s]) := fun h => fewS_snoc l k s hs h
      have HF2 : Hid (70 ≤ k → fewS (l.take (k + 1)) = fewS (l.take k)) := fun h => fewS_full l k h
      have HCUT : Hid (cut s = { s with nm := s.nm.extract 0 (min s.nm.size 40) }) := rfl
      obtain ⟨nm, ar, at_, wd, bg, sg, mu, ad⟩ := s
      have c0 := hcc 0 _ rfl
      have c1 := hcc 1 _ rfl
      have c2 := hcc 2 _ rfl
      have c3 := hcc 3 _ rfl
      have c4 := hcc 4 _ rfl
      have c5 := hcc 5 _ rfl
      have c6 := hcc 6 _ rfl
      have c7 := hcc 7 _ rfl
      dsimp only at hnm
      simp only [← Nat.add_assoc, Nat.add_zero] at c0 c1 c2 c3 c4 c5 c6 c7
      clear hcc hs hsw hlt
      by_cases h70 : k < 70
      · have h70I : (k : Int) < 70 := by omega
        by_cases h40 : nm.size ≤ 40
        · have h40I : (nm.size : Int) ≤ 40 := by omega
          have hmin : min (nm.size : Int) 40 = nm.size := by omega
          have HE : Hid (fewS (l.take (k + 1)) = fewS (l.take k) ++ [⟨nm, ar, at_, wd, bg, sg, mu, ad⟩]) := by
            show _ = _
            rw [HF1.out h70, HCUT.out]
            dsimp only
            rw [show min nm.size 40 = nm.size by omega, extract_all]
          clear h70 h40
          go_wp2_with (at_builtin; refine wpList_app _ rfl (.tmp 23) (.tmp 25) 26 rfl w.heap.size 24 (.agg #[.string ByteArray.empty, .int .u8 0, .int .u32 0, .int .i64 0, .bool false, .bool false, .int .i32 0, .int .i32 0]) 8 48 Try.underlying26 info24 rfl (by decide) B m d _ rfl ((ho.alloc _).alloc _) _ _ 1 1 (cellsS [⟨nm, ar, at_, wd, bg, sg, mu, ad⟩]) rfl rfl (rdnew2 wr _ (cellsS [⟨nm, ar, at_, wd, bg, sg, mu, ad⟩]) 24) (cellsS_one _) (by unfold maxLen; omega) (by omega) (by simp; omega) ?_; intro B' d' w' ho3 hg hbk)
          have hb3 : Below w.heap.size w w' := ((hb.alloc hz _).alloc (by simp; omega) _).grown hg (by simp; omega) (fun k hk => (ho.lt hk).1)
          rw [← cellsS_app, ← HE.out] at ho3
          go_roundw
          case rel =>
            refine ⟨k + 1, m + 1, B', d', by omega, ?_, rfl, by go_num, ho3, hb3⟩
            rw [HE.out, List.length_append, ← HM.out]; rfl
          case measure => simp [intOf]; omega
        · have h40I : (40 : Int) < nm.size := by omega
          have hmin : min (nm.size : Int) 40 = 40 := by omega
          have HE : Hid (fewS (l.take (k + 1)) = fewS (l.take k) ++ [⟨nm.extract 0 40, ar, at_, wd, bg, sg, mu, ad⟩]) := by
            show _ = _
            rw [HF1.out h70, HCUT.out]
            dsimp only
            rw [show min nm.size 40 = 40 by omega]
          clear h70 h40
          go_wp2_with (at_builtin; refine wpList_app _ rfl (.tmp 23) (.tmp 25) 26 rfl w.heap.size 24 (.agg #[.string ByteArray.empty, .int .u8 0, .int .u32 0, .int .i64 0, .bool false, .bool false, .int .i32 0, .int .i32 0]) 8 48 Try.underlying26 info24 rfl (by decide) B m d _ rfl ((ho.alloc _).alloc _) _ _ 1 1 (cellsS [⟨nm.extract 0 40, ar, at_, wd, bg, sg, mu, ad⟩]) rfl rfl (rdnew2 wr _ (cellsS [⟨nm.extract 0 40, ar, at_, wd, bg, sg, mu, ad⟩]) 24) (cellsS_one _) (by unfold maxLen; omega) (by omega) (by simp; omega) ?_; intro B' d' w' ho3 hg hbk)
          have hb3 : Below w.heap.size w w' := ((hb.alloc hz _).alloc (by simp; omega) _).grown hg (by simp; omega) (fun k hk => (ho.lt hk).1)
          rw [← cellsS_app, ← HE.out] at ho3
          go_roundw
          case rel =>
            refine ⟨k + 1, m + 1, B', d', by omega, ?_, rfl, by go_num, ho3, hb3⟩
            rw [HE.out, List.length_append, ← HM.out]; rfl
          case measure => simp [intOf]; omega
      · have h70I : (70 : Int) ≤ k := by omega
        have HE := Lib.hid (HF2.out (by omega))
        clear h70
        have hb3 := hb.alloc hz (.cells #[.string nm, .int .u8 ar, .int .u32 at_, .int .i64 wd, .bool bg, .bool sg, .int .i32 mu, .int .i32 ad] 24)
        have ho3 := ho.alloc (.cells #[.string nm, .int .u8 ar, .int .u32 at_, .int .i64 wd, .bool bg, .bool sg, .int .i32 mu, .int .i32 ad] 24)
        rw [← HE.out] at ho3
        go_wp2_with fail
        go_roundw
        case rel => exact ⟨k + 1, m, B, d, by omega, by rw [HE.out]; exact HM.out, rfl, by go_num, ho3, hb3⟩
        case measure => simp [intOf]; omega
    · obtain rfl : k = n := by omega
      have hm := HM.out
      rw [List.take_of_length_le (by rw [HX.out]; exact Nat.le_refl _)] at hm ho
      have HMM := Lib.hid hm
      clear hm
      go_wp2_with fail
      go_ret
      exact ⟨B, m, d, rfl, HMM.out, ho, hb⟩
end Go.Proofs.Ytmcmlglacblkiaa
