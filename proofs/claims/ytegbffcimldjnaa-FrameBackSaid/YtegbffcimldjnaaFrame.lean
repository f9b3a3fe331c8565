import Derived.Test.YtegbffcimldjnaaBase
namespace Go.Proofs.Ytegbffcimldjnaa
open Go.RowKit
set_option linter.unusedVariables false
set_option linter.unusedSimpArgs false

theorem kn_true (id : Int) (h0 : 0 ≤ id) : (id / 536870912 == 0) = kn id true := by
  rw [Bool.eq_iff_iff]; simp [kn]; omega
theorem kn_false (id : Int) (h0 : 0 ≤ id) : (id / 2048 == 0) = kn id false := by
  rw [Bool.eq_iff_iff]; simp [kn]; omega
theorem ret_bool {a b : Bool} (h : a = b) : Ending.returned (.bool a) = .returned (.bool b) := by rw [h]

set_option maxHeartbeats 400000 in
theorem known_any (id : Int) (ext : Bool) (w : World) (h0 : 0 ≤ id) (h1 : id < 4294967296) :
    Calls Try.prog 23 #[.int .u32 id, .bool ext] w fun e w' => e = .returned (.bool (kn id ext)) ∧ w = w' := by
  cases ext
  · go_enter Try.func23, Try.ntmps23
    go_wp2
    go_ret
    exact ⟨ret_bool (kn_false id h0), rfl⟩
  · go_enter Try.func23, Try.ntmps23
    go_wp2
    go_ret
    exact ⟨ret_bool (kn_true id h0), rfl⟩

set_option maxHeartbeats 400000 in
theorem refknown_any (id : Int) (ext : Bool) (w : World) (h0 : 0 ≤ id) (h1 : id < 4294967296) :
    Calls Try.prog 24 #[.int .u32 id, .bool ext] w fun e w' => e = .returned (.bool (kn id ext)) ∧ w = w' := by
  by_cases h : id < 2048
  · go_enter Try.func24, Try.ntmps24
    go_wp2
    go_ret
    exact ⟨ret_bool (by simp [kn, h]), rfl⟩
  · have hd : decide (id < 2048) = false := by simpa using h
    have hd' : 2048 ≤ id := by omega
    cases ext
    · go_enter Try.func24, Try.ntmps24
      go_wp2
      go_ret
      exact ⟨ret_bool (by simp [kn]; omega), rfl⟩
    · go_enter Try.func24, Try.ntmps24
      go_wp2
      go_ret
      exact ⟨ret_bool (by simp [kn]; omega), rfl⟩

/-- 'copy' of bytes that are read into the eight places of a frame that has none yet. -/
theorem run_copy_frame {P : Program} {dT sT ty elem : TypeId} (hu : P.underlying dT = some (.slice elem)) (hs : (P.info? elem).map (·.size) = some 1) (w : World) (c0 c1 c2 : Value) (T : TypeId) (A : Option Addr) (xs : List Int) (c n : Nat)
    (h : Rd w w.heap.size A (u8s xs)) (h8 : xs.length ≤ 8) (hn : n = w.heap.size) :
    (Builtin.copy_ #[dT, sT] ty #[.slice (some ⟨n, 3, none⟩) 8 8, .slice A xs.length c]).run P (w.alloc (.cells #[c0, c1, c2, .int .u8 0, .int .u8 0, .int .u8 0, .int .u8 0, .int .u8 0, .int .u8 0, .int .u8 0, .int .u8 0] T)) =
      .ok (.int .i64 xs.length) (w.alloc (.cells #[c0, c1, c2, .int .u8 (xs.getD 0 0), .int .u8 (xs.getD 1 0), .int .u8 (xs.getD 2 0), .int .u8 (xs.getD 3 0), .int .u8 (xs.getD 4 0), .int .u8 (xs.getD 5 0), .int .u8 (xs.getD 6 0), .int .u8 (xs.getD 7 0)] T)) := by
  subst hn
  by_cases h0 : xs = []
  · subst h0
    rw [run_copy_none _ dT sT ty elem (some ⟨w.heap.size, 3, none⟩) A 8 8 _ c hu hs (by simp)]
    simp [goInt]
  · obtain ⟨b, o, rfl, hb, hc⟩ := h (by simpa using h0)
    have hadd : ∀ j, (⟨b, o, none⟩ : Addr).add j = ⟨b, o + j, none⟩ := fun j => by unfold Addr.add; split <;> simp_all
    have hr := run_copy_row (P := P) (w.alloc (.cells #[c0, c1, c2, .int .u8 0, .int .u8 0, .int .u8 0, .int .u8 0, .int .u8 0, .int .u8 0, .int .u8 0, .int .u8 0] T)) dT sT ty elem w.heap.size 3 8 8 ⟨b, o, none⟩ xs.length c
      #[c0, c1, c2, .int .u8 0, .int .u8 0, .int .u8 0, .int .u8 0, .int .u8 0, .int .u8 0, .int .u8 0, .int .u8 0] T (u8s xs) hu hs (heap_alloc_new w _) (by simp [Nat.min_def]; omega)
      (fun j v hv => by rw [hadd, World.cell?_alloc_lt w _ _ hb]; exact hc j v hv) (by simp; omega) (by intro v hv; simp at hv; obtain ⟨a, _, rfl⟩ := hv; rfl)
    rw [hr]
    have hset : ∀ c1 c2 : Array Value, (w.alloc (.cells c1 T)).setRow w.heap.size c2 = w.alloc (.cells c2 T) := fun c1 c2 => by
      unfold World.setRow World.alloc
      congr 1
      apply Array.ext_getElem?
      intro k
      simp only [Array.getElem?_modify, Array.getElem?_push]
      by_cases hk : k = w.heap.size
      · subst hk; simp
      · simp [hk, Ne.symm hk]
    rw [hset]
    clear hr hset hc hadd hb h
    match xs, h8, h0 with
    | [], _, h0 => exact absurd rfl h0
    | [_], _, _ | [_, _], _, _ | [_, _, _], _, _ | [_, _, _, _], _, _ | [_, _, _, _, _], _, _ | [_, _, _, _, _, _], _, _ | [_, _, _, _, _, _, _], _, _ | [_, _, _, _, _, _, _, _], _, _ => simp [goInt]
    | _ :: _ :: _ :: _ :: _ :: _ :: _ :: _ :: _ :: _, h8, _ => simp at h8

set_option maxHeartbeats 400000 in
theorem make_any (id : Int) (ext : Bool) (A : Option Addr) (xs : List Int) (c : Nat) (w : World) (h0 : 0 ≤ id) (h1 : id < 4294967296) (hb : Rd w w.heap.size A (u8s xs)) (hl : xs.length ≤ maxLen) :
    Calls Try.prog 10 #[.int .u32 id, .bool ext, .slice A xs.length c] w fun e w' => e = .returned (.tuple #[(mkF id ext xs).val, .int .i64 (mkE id ext xs)]) ∧ Below w.heap.size w w' := by
  unfold maxLen at hl
  by_cases hk : kn id ext = true
  · by_cases h8 : xs.length ≤ 8
    · have eF : mkF id ext xs = ⟨id, ext, xs.length, xs⟩ := by simp [mkF, hk, h8]
      have eE : mkE id ext xs = 0 := by simp [mkE, hk, h8]
      rw [eF, eE]
      clear eF eE
      have hcp := fun c0 c1 c2 T W n hW hn => run_copy_frame (P := Try.prog) (dT := 23) (sT := 23) (ty := 3) Try.underlying23 (by kernel_rfl) W c0 c1 c2 T A xs c n hW h8 hn
      have hcp' := fun c0 c1 c2 T o => hcp c0 c1 c2 T (w.alloc o) (w.heap.size + 1) ((hb.alloc (Nat.le_refl _) o).more (by simp)) (by simp)
      clear hcp
      go_enter Try.func10, Try.ntmps10
      go_wp2_with (go_at_call 23; refine (known_any _ _ _ h0 h1).mono ?_; rintro e w' ⟨rfl, rfl⟩)
      go_returns
      exact ⟨by simp [Fr.val, Fr.g], by go_grown⟩
    · have eF : mkF id ext xs = Fr.none_ := by simp [mkF, h8]
      have eE : mkE id ext xs = 3 := by simp [mkE, hk, h8]
      rw [eF, eE]
      clear eF eE
      have h9 : (8 : Int) < xs.length := by omega
      go_enter Try.func10, Try.ntmps10
      go_wp2_with (go_at_call 23; refine (known_any _ _ _ h0 h1).mono ?_; rintro e w' ⟨rfl, rfl⟩)
      go_returns
      exact ⟨rfl, by go_grown⟩
  · have hk' : kn id ext = false := by simpa using hk
    have eF : mkF id ext xs = Fr.none_ := by simp [mkF, hk']
    have eE : mkE id ext xs = 1 := by simp [mkE, hk']
    rw [eF, eE]
    clear eF eE
    go_enter Try.func10, Try.ntmps10
    go_wp2_with (go_at_call 23; refine (known_any _ _ _ h0 h1).mono ?_; rintro e w' ⟨rfl, rfl⟩)
    go_returns
    exact ⟨rfl, by go_grown⟩
end Go.Proofs.Ytegbffcimldjnaa
