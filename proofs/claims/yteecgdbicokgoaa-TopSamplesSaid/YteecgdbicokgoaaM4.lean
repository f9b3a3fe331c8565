/- Memory: New. -/
import Derived.Test.YteecgdbicokgoaaM3
import Derived.Deep.RegionLaw
import Derived.Deep.RegionHeldLaw
namespace Go.Proofs.Yteecgdbicokgoaa
open Go.RowKit
set_option linter.unusedVariables false
set_option linter.unusedSimpArgs false
set_option maxRecDepth 100000
def zeros (n : Nat) : List Int := List.replicate n 0
theorem within_any (n a b : Int) (w : World) : Calls Try.prog 47 #[.int .i64 n, .int .i64 a, .int .i64 b] w fun e w' => e = .returned (.bool (decide (a ≤ n) && decide (n ≤ b))) ∧ w = w' := by
  rcases Int.lt_or_le n a with h | h
  · have hd : decide (a ≤ n) = false := decide_eq_false (by omega)
    go_enter Try.func47, Try.ntmps47
    go_wp2
    go_ret
    exact ⟨by rw [hd]; rfl, rfl⟩
  · have hd : decide (a ≤ n) = true := decide_eq_true h
    go_enter Try.func47, Try.ntmps47
    go_wp2
    go_ret
    exact ⟨by rw [hd]; rfl, rfl⟩
theorem info5b : (Try.prog.info? 5).map (fun i => (i.zero, i.size, i.bytes)) = some (some (.int .u8 0), 1, 1) := info5
theorem info22 : (Try.prog.info? 22).map (fun i => (i.zero, i.size, i.bytes)) = some (some (.slice none 0 0), 1, 24) := by kernel_rfl
theorem info110 : (Try.prog.info? 110).map (fun i => (i.zero, i.size, i.bytes)) = some (some (.pointer none), 1, 8) := by kernel_rfl
/-- A segment as it is built: so many pages are there. -/
def PgAt (w : World) (L : Nat) (gx gr : Nat) (Z : Array Value) (gl : List Nat) : Prop := ∃ A c, Blk w gx 114 #[.slice A gl.length c, .int .i64 0, .int .i64 0] ∧
  Own w L 22 1 A gl.length c (gl.map fun g => .slice (some ⟨g, 0, none⟩) 16 16) ∧ (∀ g ∈ gl, (L ≤ g ∧ g < w.heap.size) ∧ Blk w g 5 Z ∧ gr ≠ g) ∧ gl.Nodup
theorem rep_flat (n : Nat) (v : Value) : (List.replicate n [v]).flatten = List.replicate n v := by
  induction n with
  | zero => rfl
  | succ n ih => rw [List.replicate_succ, List.flatten_cons, ih]; rfl
theorem made_zeros (n : Nat) : madeCells (Value.cells (.int .u8 0)) (n * 1) = (u8s (zeros n)).toArray := by
  have h := made_flat (Value.cells (.int .u8 0)) 1 n rfl (by decide)
  have e : (Value.cells (.int .u8 0)).toList = [Value.int .u8 0] := rfl
  rw [e, rep_flat] at h
  have h2 : u8s (zeros n) = List.replicate n (Value.int .u8 0) := List.map_replicate
  rw [h2, ← h, Array.toArray_toList]
theorem mkz (n : Nat) (hn : n ≤ 1000) (w : World) : (Instr.makeSlice 22 (.int .i64 n) (.int .i64 n)).run Try.prog w = .ok (.slice (some ⟨w.heap.size, 0, none⟩) n n) (w.alloc (.cells (u8s (zeros n)).toArray 5)) := by
  obtain ⟨i, hi, hz, hsize, hby⟩ := info_parts info5
  have hr := run_make (P := Try.prog) w 22 5 i (.int .u8 0) Try.underlying22 hi hz .i64 .i64 n n (by omega) (Int.le_refl _) (by rw [hby]; omega) (by omega)
  simp only [Int.toNat_natCast, hsize] at hr
  rw [hr, made_zeros]
/-- A page more. -/
theorem PgAt.snoc {wr WA w5 : World} {t gr : Nat} {Z : Array Value} {gl : List Nat} {k : Nat} (hk : gl.length = k) {A A5 : Option Addr} {c c5 : Nat} (ht : t + 1 < wr.heap.size) (hr : gr < t) (hg : ∀ g ∈ gl, (t ≤ g ∧ g < wr.heap.size) ∧ Blk wr g 5 Z ∧ gr ≠ g) (hnd : gl.Nodup)
    (hWA : Below wr.heap.size wr WA) (hzA : WA.heap.size = wr.heap.size + 2) (hP : Blk WA wr.heap.size 5 Z) (hO : Own WA t 22 1 A k c (gl.map fun g => .slice (some ⟨g, 0, none⟩) 16 16)) (hX : Blk WA (t + 1) 114 #[.slice A k c, .int .i64 0, .int .i64 0]) (hS : Blk WA t 89 #[.int .i64 16, .int .i64 2])
    (ho5 : Own w5 t 22 1 A5 (k + 1) c5 ((gl.map fun g => .slice (some ⟨g, 0, none⟩) 16 16) ++ [.slice (some ⟨wr.heap.size, 0, none⟩) 16 16])) (hg5 : WA.grownBy w5 (blkOf A)) (hb5 : blkOf A5 = blkOf A ∨ blkOf A5 = some WA.heap.size) {W : World} (hb : Below t W wr) (htW : t ≤ W.heap.size) :
    Blk (w5.setCell ⟨t + 1, 0, none⟩ (.slice A5 (k + 1) c5)) t 89 #[.int .i64 16, .int .i64 2] ∧ PgAt (w5.setCell ⟨t + 1, 0, none⟩ (.slice A5 (k + 1) c5)) t (t + 1) gr Z (gl ++ [wr.heap.size]) ∧ Below t W (w5.setCell ⟨t + 1, 0, none⟩ (.slice A5 (k + 1) c5)) := by
  have nA : ∀ {g : Nat} {t' : TypeId} {cs : Array Value}, Blk WA g t' cs → (22 : TypeId) ≠ t' → some g ≠ blkOf A := fun hB hn => own_blk_ne hO hB hn
  have kp : ∀ {g : Nat} {t' : TypeId} {cs : Array Value}, Blk WA g t' cs → (22 : TypeId) ≠ t' → g ≠ t + 1 → Blk (w5.setCell ⟨t + 1, 0, none⟩ (.slice A5 (k + 1) c5)) g t' cs := fun hB hn h1 => (hB.grown hg5 (nA hB hn)).far (p := ⟨t + 1, 0, none⟩) h1 _
  have hsz : (w5.setCell ⟨t + 1, 0, none⟩ (.slice A5 (k + 1) c5)).heap.size = w5.heap.size := by simp [World.setCell]
  have h25 := hg5.size
  have hBX := (hX.grown hg5 (nA hX (by decide))).set_ 0 (.slice A5 (k + 1) c5)
  refine ⟨kp hS (by decide) (by omega), ⟨A5, c5, ?_, ?_, fun g hgm => ?_, ?_⟩, ?_⟩
  · rw [List.length_append, hk]
    exact hBX
  · rw [List.length_append, hk, List.map_append]
    refine ho5.kept fun g hgb => Below.heap_setCell w5 ⟨t + 1, 0, none⟩ _ g (fun e => ?_)
    have e : g = t + 1 := e
    rcases hb5 with h | h
    · rw [e, h] at hgb
      exact nA hX (by decide) hgb.symm
    · rw [h] at hgb
      injection hgb with hgb
      omega
  · rcases List.mem_append.1 hgm with h | h
    · obtain ⟨h1, h2, h3⟩ := hg g h
      refine ⟨⟨h1.1, by rw [hsz]; omega⟩, kp (h2.below hWA) (by decide) (fun e => ?_), h3⟩
      have h4 := h2.below hWA
      rw [e] at h4
      exact absurd (blk_ty h4 hX) (by decide)
    · rw [List.mem_singleton] at h
      subst h
      exact ⟨⟨by omega, by rw [hsz]; omega⟩, kp hP (by decide) (by omega), by omega⟩
  · rw [List.nodup_append]
    refine ⟨hnd, by simp, fun a ha b hb e => ?_⟩
    rw [List.mem_singleton] at hb
    have := (hg a ha).1.2
    omega
  · exact ((bel_grown' (hb.trans (hWA.mono (by omega))) (by omega) hO hg5)).setCell (p := ⟨t + 1, 0, none⟩) (by simp) _
set_option maxHeartbeats 4000000 in
theorem new1_any (w : World) (gs0 : Nat) (hS : Blk w gs0 89 #[.int .i64 16, .int .i64 2]) : Calls Try.prog 20 #[.agg #[.int .i64 64, .slice (some ⟨gs0, 0, none⟩) 1 1, .slice none 0 0]] w fun e w' => ∃ m, e = .returned (.tuple #[.pointer (some ⟨m, 0, none⟩), .int .i64 0]) ∧ MAt w' w.heap.size w'.heap.size m ⟨zeros 64, some ⟨zeros 16, zeros 16, 0, 0⟩⟩ ∧ Below w.heap.size w w' := by
  have WN := Lib.hid within_any
  have HS := Lib.hid hS
  have hs0 := (hS.below (bl1 w (.cells #[.int .i64 64, .slice (some ⟨gs0, 0, none⟩) 1 1, .slice none 0 0] 57))).cell
  obtain ⟨Z64, hZ64⟩ : ∃ Z, (u8s (zeros 64)).toArray = Z := ⟨_, rfl⟩
  obtain ⟨Z16, hZ16⟩ : ∃ Z, (u8s (zeros 16)).toArray = Z := ⟨_, rfl⟩
  have mk64 : ∀ w, (Instr.makeSlice 22 (.int .i64 64) (.int .i64 64)).run Try.prog w = .ok (.slice (some ⟨w.heap.size, 0, none⟩) 64 64) (w.alloc (.cells Z64 5)) := fun w => by have := mkz 64 (by decide) w; rw [hZ64] at this; exact this
  have mk16 : ∀ w, (Instr.makeSlice 22 (.int .i64 16) (.int .i64 16)).run Try.prog w = .ok (.slice (some ⟨w.heap.size, 0, none⟩) 16 16) (w.alloc (.cells Z16 5)) := fun w => by have := mkz 16 (by decide) w; rw [hZ16] at this; exact this
  have HZ64 := Lib.hid hZ64
  have HZ16 := Lib.hid hZ16
  clear hS hZ64 hZ16
  go_enter Try.func20, Try.ntmps20
  go_wp2_with (go_at_call 47; refine (WN.out _ _ _ _).mono ?_; rintro e w' ⟨rfl, rfl⟩)
  refine wp_named fun W hW => ?_
  obtain ⟨s, hs⟩ : ∃ s, w.heap.size = s := ⟨_, rfl⟩
  have F : Blk W s 57 #[.int .i64 64, .slice (some ⟨gs0, 0, none⟩) 1 1, .slice none 0 0] ∧ Blk W (s + 1) 5 Z64 ∧ Blk W (s + 2) 125 #[.slice (some ⟨s + 1, 0, none⟩) 64 64, .slice none 0 0] ∧ Below w.heap.size w W := by
    have b1 := bl1 w (.cells #[.int .i64 64, .slice (some ⟨gs0, 0, none⟩) 1 1, .slice none 0 0] 57)
    have k0 := Blk.new w 57 #[.int .i64 64, .slice (some ⟨gs0, 0, none⟩) 1 1, .slice none 0 0]
    obtain ⟨w1, hw1⟩ : ∃ w1, w.alloc (.cells #[.int .i64 64, .slice (some ⟨gs0, 0, none⟩) 1 1, .slice none 0 0] 57) = w1 := ⟨_, rfl⟩
    have z1 : w1.heap.size = s + 1 := by rw [← hw1, World.size_alloc, hs]
    rw [hw1] at b1 k0 hW
    have b2 := bl1 w1 (.cells Z64 5)
    have k1 := Blk.new w1 5 Z64
    obtain ⟨w2, hw2⟩ : ∃ w2, w1.alloc (.cells Z64 5) = w2 := ⟨_, rfl⟩
    have z2 : w2.heap.size = s + 2 := by rw [← hw2, World.size_alloc, z1]
    rw [hw2] at b2 k1 hW
    rw [z1] at k1
    rw [hs] at hW
    have b3 := bl1 w2 (.cells #[.slice (some ⟨s + 1, 0, none⟩) 64 64, .slice none 0 0] 125)
    have k2 := Blk.new w2 125 #[.slice (some ⟨s + 1, 0, none⟩) 64 64, .slice none 0 0]
    rw [z2] at k2
    rw [hs] at k0
    subst hW
    exact ⟨(k0.below b2).below b3, k1.below b3, k2, (b1.trans (b2.mono b1.size)).trans (b3.mono (b1.trans (b2.mono b1.size)).size)⟩
  rw [hs]
  have HF := Lib.hid F
  have hS1 := (HS.out.below F.2.2.2).cell
  have hP1 := F.1.cell
  clear hW F hs0
  refine wp_loop_rounds 2 ?_
  rw [rounds_succ]
  go_wp2_with (go_at_call 47; refine (WN.out _ _ _ _).mono ?_; rintro e w' ⟨rfl, rfl⟩)
  refine wp_named fun W2 hW2 => ?_
  obtain ⟨BS, BX, hbW2⟩ := blk2 hW2
  obtain ⟨t, ht⟩ : ∃ t, W.heap.size = t := ⟨_, rfl⟩
  rw [ht] at BS BX ⊢
  have hst : s + 3 ≤ t := by have := HF.out.2.2.1.lt; omega
  have hstW : t ≤ W.heap.size := by omega
  have BSc := BS.cell
  have HP : Hid (Blk W2 t 89 #[.int .i64 16, .int .i64 2] ∧ PgAt W2 t (t + 1) (s + 1) Z16 [] ∧ Below t W W2) := Lib.hid ⟨BS, ⟨none, 0, BX, Own.nil _ _ _ _, (fun g hg => by cases hg), List.nodup_nil⟩, by rw [← ht]; exact hbW2⟩
  clear hW2 BX BS hbW2 hP1
  go_wp2_with fail
  go_loopw [54] (fun iv wr => ∃ gl : List Nat, gl.length ≤ 2 ∧ iv = .int .i64 gl.length ∧ Blk wr t 89 #[.int .i64 16, .int .i64 2] ∧ PgAt wr t (t + 1) (s + 1) Z16 gl ∧ Below t W wr) (fun iv _ => 2 - (intOf iv).toNat)
  case atStart => exact ⟨[], by decide, rfl, HP.out⟩
  case round =>
    obtain ⟨gl, hgl, rfl, hBS, ⟨A, c, hBX, hO, hg5', hnd⟩, hb⟩ := hrel
    obtain ⟨k, hk⟩ : ∃ k, gl.length = k := ⟨_, rfl⟩
    rw [hk] at hgl hBX hO ⊢
    by_cases hkl : k < 2
    · have hkI : (k : Int) < 2 := by omega
      have hz : t ≤ wr.heap.size := by have := hb.size; omega
      have bs := hBS.cell
      have bx := hBX.cell
      have fx := hBX.frozen
      have b1 := bl1 wr (.cells Z16 5)
      have K1 := Blk.new wr 5 Z16
      have z1 : (wr.alloc (.cells Z16 5)).heap.size = wr.heap.size + 1 := World.size_alloc _ _
      have b2 := bl1 (wr.alloc (.cells Z16 5)) (.cells #[.slice (some ⟨wr.heap.size, 0, none⟩) 16 16] 22)
      have K2 := Blk.new (wr.alloc (.cells Z16 5)) 22 #[.slice (some ⟨wr.heap.size, 0, none⟩) 16 16]
      rw [z1] at K2
      have hBXlt := Lib.hid hBX.lt
      have WB := Lib.hid (b1.trans (b2.mono b1.size))
      have WP := Lib.hid (K1.below b2)
      have WO := Lib.hid ((hO.below b1).below b2)
      have WR := Lib.hid (K2.rd)
      have WX := Lib.hid ((hBX.below b1).below b2)
      have WS := Lib.hid ((hBS.below b1).below b2)
      have bx1 := (hBX.below b1).cell
      have bx2 := ((hBX.below b1).below b2).cell
      have bs1 := (hBS.below b1).cell
      have bs2 := ((hBS.below b1).below b2).cell
      clear hBS hBX hO K2 b1 b2 K1
      go_wp2_with fail
      have hgA : some (t + 1) ≠ blkOf A := own_blk_ne (WO.out) WX.out (by decide)
      have hkm : k + 1 ≤ maxLen := by unfold maxLen; omega
      have hk24 : (k + 1) * 24 ≤ 140737488355328 := by omega
      have hzz : t ≤ ((wr.alloc (.cells Z16 5)).alloc (.cells #[.slice (some ⟨wr.heap.size, 0, none⟩) 16 16] 22)).drew.heap.size := by simp; omega
      go_region_law (first
        | (refine step_app _ rfl (.tmp 60) (.tmp 64) 29 rfl t 22 (.slice none 0 0) 1 24 Try.underlying29 info22 rfl (by decide) A k c _ rfl (WO.out.drew) _ _ 1 1 [.slice (some ⟨wr.heap.size, 0, none⟩) 16 16] rfl rfl (WR.out.drew) (by intro u hu; simp at hu; subst hu; rfl) hkm hk24 hzz ?_; intro A5 c5 w5 ho5 hg5 hbk5; have B5 := (WX.out.drew).grown hg5 hgA; have b5 := B5.cell; have f5 := B5.frozen))
      all_goals
        have R := Lib.hid (PgAt.snoc hk (by have := WX.out.lt; have := hBXlt.out; omega) (by omega) hg5' hnd (WB.out.drew) (by simp) (WP.out.drew) (WO.out.drew) (WX.out.drew) (WS.out.drew) ho5 hg5 hbk5 hb hstW)
        clear ho5 hg5 hbk5 B5 b5 f5
        go_wp2_with fail
        go_roundw
        case rel => exact ⟨gl ++ [wr.heap.size], by rw [List.length_append, hk]; show k + 1 ≤ 2; omega, by rw [List.length_append, hk]; go_num, R.out⟩
        case measure => simp [intOf]; omega
    · obtain ⟨g0, g1, rfl⟩ : ∃ g0 g1, gl = [g0, g1] := by
        have h2 : gl.length = 2 := by omega
        match gl, h2 with
        | [a, b], _ => exact ⟨a, b, rfl⟩
      obtain rfl : 2 = k := hk
      have hbW : Below W.heap.size W wr := by rw [ht]; exact hb
      have G0 := hg5' g0 (by simp)
      have G1 := hg5' g1 (by simp)
      have hne : g0 ≠ g1 := by simpa using hnd
      have HG := Lib.hid (⟨hb, hBX, hO, G0, G1, hne⟩ : Below t W wr ∧ Blk wr (t + 1) 114 #[.slice A 2 c, .int .i64 0, .int .i64 0] ∧ Own wr t 22 1 A 2 c [.slice (some ⟨g0, 0, none⟩) 16 16, .slice (some ⟨g1, 0, none⟩) 16 16] ∧ ((t ≤ g0 ∧ g0 < wr.heap.size) ∧ Blk wr g0 5 Z16 ∧ s + 1 ≠ g0) ∧ ((t ≤ g1 ∧ g1 < wr.heap.size) ∧ Blk wr g1 5 Z16 ∧ s + 1 ≠ g1) ∧ g0 ≠ g1)
      have HFW := Lib.hid (⟨HF.out.1.below hbW, HF.out.2.1.below hbW, HF.out.2.2.1.below hbW, HF.out.2.2.2.trans (hbW.mono HF.out.2.2.2.size)⟩ : Blk wr s 57 _ ∧ Blk wr (s + 1) 5 Z64 ∧ Blk wr (s + 2) 125 _ ∧ Below w.heap.size w wr)
      have hpc := HFW.out.1.cell
      clear hb hBX hO hg5' hnd hBS G0 G1 hne hbW hgl hkl HP HF BSc hS1
      go_wp2_with fail
      go_quiet (fail)
      have hbq := bel_drewN (Below.refl wr.heap.size wr) nq
      have HG2 : Hid (Below t W (wr.drewN nq) ∧ Blk (wr.drewN nq) (t + 1) 114 #[.slice A 2 c, .int .i64 0, .int .i64 0] ∧ Own (wr.drewN nq) t 22 1 A 2 c [.slice (some ⟨g0, 0, none⟩) 16 16, .slice (some ⟨g1, 0, none⟩) 16 16] ∧ ((t ≤ g0 ∧ g0 < (wr.drewN nq).heap.size) ∧ Blk (wr.drewN nq) g0 5 Z16 ∧ s + 1 ≠ g0) ∧ ((t ≤ g1 ∧ g1 < (wr.drewN nq).heap.size) ∧ Blk (wr.drewN nq) g1 5 Z16 ∧ s + 1 ≠ g1) ∧ g0 ≠ g1) := Lib.hid (by
        obtain ⟨h1, h2, h3, ⟨h4, h5, h6⟩, ⟨h7, h8, h9⟩, h10⟩ := HG.out
        exact ⟨h1.trans (hbq.mono (by have := h1.size; omega)), h2.below hbq, h3.below hbq, ⟨⟨h4.1, Nat.lt_of_lt_of_le h4.2 hbq.size⟩, h5.below hbq, h6⟩, ⟨⟨h7.1, Nat.lt_of_lt_of_le h7.2 hbq.size⟩, h8.below hbq, h9⟩, h10⟩)
      have HF2 : Hid (Blk (wr.drewN nq) s 57 #[.int .i64 64, .slice (some ⟨gs0, 0, none⟩) 1 1, .slice none 0 0] ∧ Blk (wr.drewN nq) (s + 1) 5 Z64 ∧ Blk (wr.drewN nq) (s + 2) 125 #[.slice (some ⟨s + 1, 0, none⟩) 64 64, .slice none 0 0] ∧ Below w.heap.size w (wr.drewN nq)) := Lib.hid ⟨HFW.out.1.below hbq, HFW.out.2.1.below hbq, HFW.out.2.2.1.below hbq, HFW.out.2.2.2.trans (hbq.mono HFW.out.2.2.2.size)⟩
      clear HG HFW hpc hbq
      generalize wr.drewN nq = wq at *
      have hm := HF2.out.2.2.1.cell
      have K2 := Blk.new wq 110 #[.pointer (some ⟨t + 1, 0, none⟩)]
      have hbk := bl1 wq (.cells #[.pointer (some ⟨t + 1, 0, none⟩)] 110)
      have hm2 := (HF2.out.2.2.1.below hbk).cell
      have WR := Lib.hid (K2.rd)
      have WM := Lib.hid (HF2.out.2.2.1.below hbk)
      have hszq := World.size_alloc wq (.cells #[.pointer (some ⟨t + 1, 0, none⟩)] 110)
      have hsq : s ≤ wq.heap.size := by have := HF2.out.2.2.1.lt; omega
      have HBK := Lib.hid hbk
      clear K2 hbk
      go_wp2_with (at_builtin; refine wpList_app _ rfl (.tmp 99) (.tmp 101) 123 rfl s 110 (.pointer none) 1 8 Try.underlying123 info110 rfl (by decide) none 0 0 [] rfl (Own.nil _ _ _ _) _ _ 1 1 [.pointer (some ⟨t + 1, 0, none⟩)] rfl rfl WR.out (by intro u hu; simp at hu; subst hu; rfl) (by decide) (by decide) (by omega) ?_; intro A6 c6 w6 ho6 hg6 hbk6; have B6 := (WM.out).grown hg6 (by simp [blkOf]); have b6 := B6.cell; have f6 := B6.frozen)
      have R : Hid (MAt (w6.setCell ⟨s + 2, 1, none⟩ (.slice A6 1 c6)) s (w6.setCell ⟨s + 2, 1, none⟩ (.slice A6 1 c6)).heap.size (s + 2) ⟨zeros 64, some ⟨zeros 16, zeros 16, 0, 0⟩⟩ ∧ Below w.heap.size w (w6.setCell ⟨s + 2, 1, none⟩ (.slice A6 1 c6))) := Lib.hid (by
        obtain ⟨h1, h2, h3, ⟨h4, h5, h6⟩, ⟨h7, h8, h9⟩, h10⟩ := HG2.out
        obtain ⟨f1, f2, f3, f4⟩ := HF2.out
        have hbk := HBK.out
        have hz6 := hg6.size
        have hsz : (w6.setCell ⟨s + 2, 1, none⟩ (.slice A6 1 c6)).heap.size = w6.heap.size := by simp [World.setCell]
        have kp : ∀ {g : Nat} {t' : TypeId} {cs : Array Value}, Blk wq g t' cs → g ≠ s + 2 → Blk (w6.setCell ⟨s + 2, 1, none⟩ (.slice A6 1 c6)) g t' cs := fun hB hn => ((hB.below hbk).grown hg6 (by simp [blkOf])).far (p := ⟨s + 2, 1, none⟩) hn _
        have hn2 : ∀ {g : Nat} {t' : TypeId} {cs : Array Value}, Blk wq g t' cs → t' ≠ 125 → g ≠ s + 2 := fun hB hn e => by rw [e] at hB; exact hn (blk_ty hB f3)
        have hA6 : ∀ g, blkOf A6 = some g → g = (wq.alloc (.cells #[.pointer (some ⟨t + 1, 0, none⟩)] 110)).heap.size := fun g hg => by
          rcases hbk6 with h | h
          · rw [h] at hg; simp [blkOf] at hg
          · rw [h] at hg; injection hg with hg; exact hg.symm
        have hA6' : ∀ g, blkOf A6 = some g → g < w6.heap.size := fun g hg => (ho6.lt hg).2
        have hO := ((h3.below hbk).grown hg6 (.inr (by simp only [blkOf, Option.map_none]; intro e; have := h3.at_ (by decide); obtain ⟨gg, oo, rfl⟩ := this; simp [blkOf] at e))).far (p := ⟨s + 2, 1, none⟩) (fun e => by
          obtain ⟨cs', hcs⟩ := h3.row e
          exact hn2 hcs (by decide) rfl) (.slice A6 1 c6)
        have hb6 : Below w.heap.size w w6 := (f4.trans (hbk.mono f4.size)).grown hg6 (by omega) (fun k hk => by simp [blkOf] at hk)
        refine ⟨⟨s + 1, A6, 1, c6, ⟨⟨by simp [zeros], fun S hS => by injection hS with hS; subst hS; exact ⟨by simp [zeros], by simp [zeros], Nat.zero_le _, Nat.zero_le _⟩⟩, Nat.le_refl _, ⟨by omega, ?_⟩, ?_, ⟨by omega, ?_⟩, ?_, ?_⟩⟩, ?_⟩
        · have := B6.lt
          rw [hsz]
          omega
        · exact B6.set_ 1 (.slice A6 1 c6)
        · have := B6.lt
          rw [hsz]
          omega
        · show Blk _ (s + 1) 5 (u8s (zeros 64)).toArray
          rw [HZ64.out]
          exact kp f2 (by omega)
        · refine ⟨rfl, t + 1, A, c, g0, g1, ?_, fun g hg => by rw [hsz]; exact hA6' g hg, ⟨by omega, ?_⟩, kp h2 (hn2 h2 (by decide)), hO.more (by omega), fun g hg => by rw [hsz]; have := (h3.lt hg).2; omega, ⟨by omega, by rw [hsz]; omega⟩, ?_, ⟨by omega, by rw [hsz]; omega⟩, ?_, h6, h9, h10⟩
          · refine ho6.far (p := ⟨s + 2, 1, none⟩) (fun e => ?_) _
            have := hA6 _ e
            have h8 := f3.lt
            simp only at this
            omega
          · have := (kp h2 (hn2 h2 (by decide))).lt
            rw [hsz] at this ⊢
            exact this
          · show Blk _ g0 5 (u8s (zeros 16)).toArray
            rw [HZ16.out]
            exact kp h5 (hn2 h5 (by decide))
          · show Blk _ g1 5 (u8s (zeros 16)).toArray
            rw [HZ16.out]
            exact kp h8 (hn2 h8 (by decide))
        · exact hb6.setCell (p := ⟨s + 2, 1, none⟩) (by simp; omega) _)
      clear ho6 hg6 hbk6 B6 b6 f6 HG2 HF2 WR WM HBK hm hm2
      rw [rounds_succ]
      go_wp2_with fail
      go_ret2
      exact ⟨s + 2, rfl, by rw [hs]; exact R.out.1, R.out.2⟩
end Go.Proofs.Yteecgdbicokgoaa
