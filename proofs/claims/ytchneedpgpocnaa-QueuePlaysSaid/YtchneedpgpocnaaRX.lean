/- The reference's queue. -/
import Derived.Test.YtchneedpgpocnaaQX
namespace Go.Proofs.Ytchneedpgpocnaa
open Go.RowKit
set_option linter.unusedVariables false
set_option linter.unusedSimpArgs false
/-- The reference's queue in memory. -/
structure Rat (w : World) (q : Nat) (A : Option Addr) (c : Nat) (s : Qs) : Prop where
  blk : Blk w q 51 (qcs s.most A s.l.length c s.lost)
  own : Own w 0 31 3 A s.l.length c (cellsL s.l)
  its : ItOk w 0 s.l
  four : s.lost.length = 4
theorem Rat.chg {F : Nat → Prop} {w w' : World} {q : Nat} {A : Option Addr} {c : Nat} {s : Qs} (h : Rat w q A c s) (hc : Chg F w w') (hq : ¬ F q) (hA : ∀ g, blkOf A = some g → ¬ F g) (hF : ∀ g, F g → g < w.heap.size → ∃ t cs, Blk w g t cs ∧ t ≠ 5) : Rat w' q A c s :=
  ⟨h.blk.chg hc hq, h.own.chg hc hA, h.its.chg hc hF, h.four⟩
theorem Rat.below {w w' : World} {q : Nat} {A : Option Addr} {c : Nat} {s : Qs} (h : Rat w q A c s) (hb : Below w.heap.size w w') : Rat w' q A c s :=
  ⟨h.blk.below hb, h.own.below hb, h.its.below hb, h.four⟩
theorem Rat.c0 {w : World} {q : Nat} {A : Option Addr} {c : Nat} {s : Qs} (h : Rat w q A c s) : w.cell? ⟨q, 0, none⟩ = some (.int .i64 s.most) ∧ w.cell? ⟨q, 1, none⟩ = some (.slice A s.l.length c) :=
  ⟨(h.blk.cell 0).trans rfl, (h.blk.cell 1).trans rfl⟩
theorem Rat.lost_ {w : World} {q : Nat} {A : Option Addr} {c : Nat} {s : Qs} (h : Rat w q A c s) (j : Nat) (b : Bool) : Rat (w.setCell ⟨q, 2 + j, none⟩ (.bool b)) q A c { s with lost := s.lost.set j b } := by
  have hc : Chg (fun g => g = q) w (w.setCell ⟨q, 2 + j, none⟩ (.bool b)) := (Chg.refl (fun g => g = q) _).at_ (q := q) (Eq.refl q) _ _
  refine ⟨?_, h.own.chg hc (fun g hg e => h.own.ne_blk hg h.blk (by decide) e), h.its.chg hc (fun g e _ => by subst e; exact ⟨51, _, h.blk, by decide⟩), by simp [h.four]⟩
  have := h.blk.set_ (2 + j) (.bool b)
  rw [qcs_set] at this
  exact this
theorem rnew_no (n : Int) (w : World) (h : n < 1 ∨ 64 < n) : Calls Try.prog 14 #[.int .i64 n] w fun e w' => e = .returned (.tuple #[.pointer none, .int .i64 1]) ∧ w = w' := by
  rcases h with h | h
  · go_enter Try.func14, Try.ntmps14
    go_wp2
    go_ret2
    exact ⟨rfl, rfl⟩
  · have h' : 1 ≤ n := by omega
    go_enter Try.func14, Try.ntmps14
    go_wp2
    go_ret2
    exact ⟨rfl, rfl⟩
theorem rnew_yes (n : Int) (w : World) (h1 : 1 ≤ n) (h2 : n ≤ 64) : Calls Try.prog 14 #[.int .i64 n] w fun e w' => e = .returned (.tuple #[.pointer (some ⟨w.heap.size, 0, none⟩), .int .i64 0]) ∧ Rat w' w.heap.size none 0 ⟨n, [], [false, false, false, false]⟩ ∧ Below w.heap.size w w' := by
  go_enter Try.func14, Try.ntmps14
  go_wp2
  go_ret2
  exact ⟨rfl, ⟨Blk.new _ _ _, Own.nil _ _ _ _, ItOk.nil _ _, rfl⟩, (Below.refl _ _).alloc (Nat.le_refl _) _⟩
set_option maxHeartbeats 1000000 in
theorem rclear_any {q : Nat} {A : Option Addr} {c : Nat} {s : Qs} (w : World) (h : Rat w q A c s) : Calls Try.prog 19 #[.pointer (some ⟨q, 0, none⟩)] w fun e w' => e = .returned (.tuple #[]) ∧ Rat w' q none 0 ⟨s.most, [], [false, false, false, false]⟩ ∧ Chg (fun g => g = q) w w' := by
  obtain ⟨q0, q1⟩ := h.c0
  obtain ⟨most, l, lost⟩ := s
  obtain ⟨a0, a1, a2, a3, rfl⟩ : ∃ a0 a1 a2 a3, lost = [a0, a1, a2, a3] := by
    have h4 := h.four
    match lost, h4 with
    | [a0, a1, a2, a3], _ => exact ⟨a0, a1, a2, a3, rfl⟩
  have hB : Blk w q 51 #[.int .i64 most, .slice A l.length c, .bool a0, .bool a1, .bool a2, .bool a3] := h.blk
  have q2 : w.cell? ⟨q, 2, none⟩ = some (.bool a0) := (hB.cell 2).trans rfl
  have q3 : w.cell? ⟨q, 3, none⟩ = some (.bool a1) := (hB.cell 3).trans rfl
  have q4 : w.cell? ⟨q, 4, none⟩ = some (.bool a2) := (hB.cell 4).trans rfl
  have q5 : w.cell? ⟨q, 5, none⟩ = some (.bool a3) := (hB.cell 5).trans rfl
  have qf := hB.frozen
  go_enter Try.func19, Try.ntmps19
  go_wp2
  go_end0
  refine ⟨rfl, ⟨?_, Own.nil _ _ _ _, ItOk.nil _ _, rfl⟩, ?_⟩
  · exact ((((hB.set_ 1 _).set_ 2 _).set_ 3 _).set_ 4 _).set_ 5 _
  · exact ((((((Chg.refl (fun i => i = q) _).at_ (q := q) (Eq.refl _) _ _).at_ (q := q) (Eq.refl _) _ _).at_ (q := q) (Eq.refl _) _ _).at_ (q := q) (Eq.refl _) _ _).at_ (q := q) (Eq.refl _) _ _)
set_option maxHeartbeats 1000000 in
theorem rnext_no {q : Nat} {A : Option Addr} {c : Nat} {s : Qs} (w : World) (h : Rat w q A c s) (hl : s.l = []) : Calls Try.prog 17 #[.pointer (some ⟨q, 0, none⟩)] w fun e w' => e = .returned (.tuple #[noRep, .bool false]) ∧ Below w.heap.size w w' := by
  obtain ⟨q0, q1⟩ := h.c0
  rw [hl] at q1
  have q1a : ∀ o, (w.alloc o).cell? ⟨q, 1, none⟩ = some (.slice A 0 c) := fun o => ((h.blk.alloc o).cell 1).trans (by rw [hl]; rfl)
  go_enter Try.func17, Try.ntmps17
  go_wp2_with fail
  refine bodyPost_ret (v := .tuple #[noRep, .bool false]) (by simp [results, Try.results17, go_sem]) rfl ⟨rfl, (Below.refl _ _).alloc (Nat.le_refl _) _⟩
def RNextP (w : World) (q : Nat) (s : Qs) (t : It) (r : List It) (e : Ending) (w' : World) : Prop := ∃ A' c', e = .returned (.tuple #[t.val, .bool true]) ∧ Rat w' q A' c' { s with l := r } ∧ (∀ g, blkOf A' = some g → w.heap.size ≤ g) ∧ Chg (fun g => g = q) w w'
set_option maxHeartbeats 2000000 in
theorem rnext_yes {q : Nat} {A : Option Addr} {c : Nat} {s : Qs} (w : World) (h : Rat w q A c s) (t : It) (r : List It) (hl : s.l = t :: r) (hmx : s.l.length ≤ 1000000) : Calls Try.prog 17 #[.pointer (some ⟨q, 0, none⟩)] w (RNextP w q s t r) := by
  have ho := h.own.cut (k := 1) (by rw [hl]; simp) (by decide)
  rw [hl] at ho
  have hn : (t :: r).length - 1 = r.length := by simp
  rw [hn, cellsL_drop] at ho
  have ho : Own w 0 31 3 _ r.length (c - 1) (cellsL r) := ho
  have hits : ItOk w 0 r := fun u hu => h.its u (by rw [hl]; simp [hu])
  obtain ⟨g, off, rfl⟩ := h.own.at_ (by rw [hl]; simp)
  have hgt : s.l[0]? = some t := by rw [hl]; rfl
  obtain ⟨k0, k1, k2⟩ := cellsL_get _ _ _ hgt
  have d0 : ∀ o, (w.alloc o).cell? ⟨g, off, none⟩ = some (.int .u8 t.kind) := fun o => (h.own.alloc o).cells 0 _ k0
  have d1 : ∀ o, (w.alloc o).cell? ⟨g, off + 1, none⟩ = some (.int .u8 t.code) := fun o => (h.own.alloc o).cells 1 _ k1
  have d2 : ∀ o, (w.alloc o).cell? ⟨g, off + 2, none⟩ = some (.slice t.A t.n t.c) := fun o => (h.own.alloc o).cells 2 _ k2
  have hlen : s.l.length = r.length + 1 := by rw [hl]; simp
  have e0 : ((s.l.length : Int) == 0) = false := by rw [hlen]; simp; omega
  have e1 : (0 : Int) < (s.l.length : Int) := by rw [hlen]; omega
  have hcap : s.l.length ≤ c := h.own.2.1
  have hcm : c ≤ maxLen := h.own.2.2.1
  unfold maxLen at hcm
  obtain ⟨q0, q1⟩ := h.c0
  have q1a : ∀ o, (w.alloc o).cell? ⟨q, 1, none⟩ = some (.slice (some ⟨g, off, none⟩) s.l.length c) := fun o => ((h.blk.alloc o).cell 1).trans rfl
  have q1b : ∀ o o' o2, (((w.alloc o).alloc o').alloc o2).cell? ⟨q, 1, none⟩ = some (.slice (some ⟨g, off, none⟩) s.l.length c) := fun o o' o2 => ((((h.blk.alloc o).alloc o').alloc o2).cell 1).trans rfl
  clear k0 k1 k2 hgt
  have hb2 : ∀ o o', Below w.heap.size w ((w.alloc o).alloc o') := fun o o' => ((Below.refl _ _).alloc (Nat.le_refl _) _).alloc (by simp) _
  have HL := Lib.hid hl
  have HLen := Lib.hid hlen
  clear hlen hl
  have hqlt := h.blk.lt
  obtain ⟨N, hN⟩ : ∃ N, s.l.length = N := ⟨_, rfl⟩
  obtain ⟨M, hM⟩ : ∃ M, r.length = M := ⟨_, rfl⟩
  have hNM : N = M + 1 := by have := HLen.out; omega
  rw [hM] at ho
  have HB : Hid (Blk (((w.alloc (.cells #[.int .u8 0, .int .u8 0, .slice none 0 0] 31)).alloc (.cells #[.int .u8 t.kind, .int .u8 t.code, .slice t.A t.n t.c] 31)).alloc (.cells #[] 31)) q 51 (qcs s.most (some ⟨g, off, none⟩) s.l.length c s.lost)) := ((h.blk.alloc _).alloc _).alloc _
  have HZ : Hid (Blk (((w.alloc (.cells #[.int .u8 0, .int .u8 0, .slice none 0 0] 31)).alloc (.cells #[.int .u8 t.kind, .int .u8 t.code, .slice t.A t.n t.c] 31)).alloc (.cells #[] 31)) w.heap.size 31 #[.int .u8 0, .int .u8 0, .slice none 0 0]) := ((Blk.new w 31 _).alloc _).alloc _
  have HR : Hid (Blk (((w.alloc (.cells #[.int .u8 0, .int .u8 0, .slice none 0 0] 31)).alloc (.cells #[.int .u8 t.kind, .int .u8 t.code, .slice t.A t.n t.c] 31)).alloc (.cells #[] 31)) (w.heap.size + 1) 31 #[.int .u8 t.kind, .int .u8 t.code, .slice t.A t.n t.c]) := by
    have := (Blk.new (w.alloc (.cells #[.int .u8 0, .int .u8 0, .slice none 0 0] 31)) 31 #[.int .u8 t.kind, .int .u8 t.code, .slice t.A t.n t.c]).alloc (.cells #[] 31)
    exact Lib.hid (by simpa only [World.size_alloc] using this)
  have hb3 := (hb2 (.cells #[.int .u8 0, .int .u8 0, .slice none 0 0] 31) (.cells #[.int .u8 t.kind, .int .u8 t.code, .slice t.A t.n t.c] 31)).alloc (by simp only [World.size_alloc]; omega) (.cells #[] 31)
  have HM := Lib.hid hM
  have HIT : Hid (ItOk (((w.alloc (.cells #[.int .u8 0, .int .u8 0, .slice none 0 0] 31)).alloc (.cells #[.int .u8 t.kind, .int .u8 t.code, .slice t.A t.n t.c] 31)).alloc (.cells #[] 31)) 0 r) := hits.below hb3
  have hfr := Own.made (e := 31) (size := 3) (base := w.heap.size + 1 + 1) ((w.alloc (.cells #[.int .u8 0, .int .u8 0, .slice none 0 0] 31)).alloc (.cells #[.int .u8 t.kind, .int .u8 t.code, .slice t.A t.n t.c] 31)) (by simp only [World.size_alloc]; omega) #[] 0 0 (by decide) (by decide) rfl
  simp only [World.size_alloc] at hfr
  have hfr : Own _ (w.heap.size + 1 + 1) 31 3 (some ⟨w.heap.size + 1 + 1, 0, none⟩) 0 0 [] := hfr
  have hqn := own_blk_ne hfr HB.out (by decide)
  have hM1 : M ≤ 1000000 := by omega
  rw [hN] at e0 e1 q1 q1a q1b hcap
  by_cases h1 : c = 1
  case' pos =>
    subst h1
    have hN1 : N = 1 := by omega
    obtain rfl : M = 0 := by omega
    simp only [if_true] at ho
    rw [hN1] at e0 e1 q1 q1a q1b hcap
    clear hN1 hNM
  case' neg =>
    simp only [if_neg h1] at ho
    have ho : Own w 0 31 3 (some ⟨g, off + 3, none⟩) M (c - 1) (cellsL r) := ho
    have hN1 : (1 : Int) ≤ N := by omega
    have hN2 : 1 ≤ N := by omega
    obtain rfl : M = N - 1 := by omega
    clear hNM
  all_goals
    have hrd := ((ho.rd.al (.cells #[.int .u8 0, .int .u8 0, .slice none 0 0] 31)).al (.cells #[.int .u8 t.kind, .int .u8 t.code, .slice t.A t.n t.c] 31)).al (.cells #[] 31)
    clear hM hN hits
    go_enter Try.func17, Try.ntmps17
    go_upto_region 5 with (at_builtin; refine wpList_app _ rfl (.tmp 19) (.tmp 24) 28 rfl (w.heap.size + 1 + 1) 31 (.agg #[.int .u8 0, .int .u8 0, .slice none 0 0]) 3 32 Try.underlying28 info31 rfl (by decide) _ 0 0 [] rfl hfr _ _ _ _ _ rfl (by rw [cellsL_len, HM.out]) hrd (cellsL_one _) (by unfold maxLen; omega) (by omega) (by simp only [World.size_alloc]; omega) ?_; intro A5 c5 w5 ho5 hg5 hbk5; have B5 := HB.out.grown hg5 hqn; have f5 := B5.frozen 1; have b5 : w5.cell? ⟨q, 1, none⟩ = some _ := (B5.cell 1).trans rfl)
    refine wp_named fun W hW => ?_
    simp only [Nat.zero_add, List.nil_append] at ho5
    have hcS : Chg (fun g => g = q) w5 W := by rw [hW]; exact (Chg.refl (fun g => g = q) _).at_ (q := q) (Eq.refl q) _ _
    have hRW : Rat W q A5 c5 { s with l := r } := by
      refine ⟨?_, ?_, fun u hu => ?_, h.four⟩
      · have := B5.set_ 1 (.slice A5 r.length c5)
        rw [qcs_l] at this
        rw [hW]
        rw [HM.out] at this ⊢
        exact this
      · show Own W 0 31 3 A5 r.length c5 (cellsL r)
        rw [HM.out]
        exact (ho5.chg hcS (fun g hg e => ho5.ne_blk hg B5 (by decide) e)).more (Nat.zero_le _)
      · obtain ⟨x1, x2, x3⟩ := HIT.out u hu
        have x4 := x3.grown hg5 (own_own_ne x3 hfr (by decide))
        exact ⟨x1, x2, x4.chg hcS (fun g hg e => x4.ne_blk hg B5 (by decide) e)⟩
    have HRW := Lib.hid hRW
    have hch : Chg (fun g => g = q) w W := ((Chg.of_below hb3 (fun g => g = q)).trans (Chg.of_grown hg5) (fun i hi e => by simp [blkOf] at e; omega)).trans hcS (fun i hi e => e)
    have BR : Blk W (w.heap.size + 1) 31 #[.int .u8 t.kind, .int .u8 t.code, .slice t.A t.n t.c] := (HR.out.grown hg5 (by simp [blkOf])).chg hcS (by omega)
    have BZ : Blk W w.heap.size 31 #[.int .u8 0, .int .u8 0, .slice none 0 0] := (HZ.out.grown hg5 (by simp [blkOf]; omega)).chg hcS (by omega)
    have hA5 := fun g (hg : blkOf A5 = some g) => (ho5.lt hg).1
    clear hW hRW q0 q1 q1a q1b hb2 d0 d1 d2 B5 f5 b5 ho5 hg5 hcS hfr hrd ho
    have b1 := BR.cell
    have b2 := BZ.cell
    have f2 := BZ.frozen
    go_wp2_with fail
    have hcZ : Chg (fun i => i = w.heap.size) W (((W.setCell ⟨w.heap.size, 0, none⟩ (.int .u8 t.kind)).setCell ⟨w.heap.size, 1, none⟩ (.int .u8 t.code)).setCell ⟨w.heap.size, 2, none⟩ (.slice t.A t.n t.c)) :=
      (((Chg.refl (fun i => i = w.heap.size) _).at_ (q := w.heap.size) (Eq.refl _) _ _).at_ (q := w.heap.size) (Eq.refl _) _ _).at_ (q := w.heap.size) (Eq.refl _) _ _
    have B3 := ((BZ.set_ 0 (.int .u8 t.kind)).set_ 1 (.int .u8 t.code)).set_ 2 (.slice t.A t.n t.c)
    have hQf := HRW.out.chg hcZ (by omega) (fun i hi e => by
      have := hA5 i hi
      omega) (fun i hi _ => by subst hi; exact ⟨31, _, BZ, by decide⟩)
    have hcf : Chg (fun g => g = q) w (((W.setCell ⟨w.heap.size, 0, none⟩ (.int .u8 t.kind)).setCell ⟨w.heap.size, 1, none⟩ (.int .u8 t.code)).setCell ⟨w.heap.size, 2, none⟩ (.slice t.A t.n t.c)) := hch.trans hcZ (fun i hi e => by omega)
    generalize ((W.setCell ⟨w.heap.size, 0, none⟩ (.int .u8 t.kind)).setCell ⟨w.heap.size, 1, none⟩ (.int .u8 t.code)).setCell ⟨w.heap.size, 2, none⟩ (.slice t.A t.n t.c) = W3 at *
    have z0 : W3.cell? ⟨w.heap.size, 0, none⟩ = some (.int .u8 t.kind) := (B3.cell 0).trans rfl
    have z1 : W3.cell? ⟨w.heap.size, 1, none⟩ = some (.int .u8 t.code) := (B3.cell 1).trans rfl
    have z2 : W3.cell? ⟨w.heap.size, 2, none⟩ = some (.slice t.A t.n t.c) := (B3.cell 2).trans rfl
    refine bodyPost_ret (v := .tuple #[t.val, .bool true]) (by simp [results, Try.results17, go_sem, z0, z1, z2]) rfl ⟨_, _, rfl, hQf, fun g hg => by have := hA5 g hg; omega, hcf⟩
end Go.Proofs.Ytchneedpgpocnaa
