/- Unlock of anything; the examples; LockNil and LockFree. -/
import Derived.Test.YtgkmeekefinmkaaL5
namespace Go.Proofs.Ytgkmeekefinmkaa
open Go.RowKit
set_option linter.unusedVariables false
set_option linter.unusedSimpArgs false
theorem unlock_any {w : World} {B l : Nat} {Φ : Nat → Prop} {a : LX} (h : LAt w B Φ l a) (hB : B ≤ w.heap.size) (left : Int) (A : Option Addr) (n c : Nat) (xs : List Int) (h0 : -9223372036854775808 ≤ left) (h1 : left ≤ 9223372036854775807) (hn : n ≤ maxLen) (hx : xs.length = n) (hr : Rd w w.heap.size A (u8s xs)) (hu : by8 xs) :
    Calls Try.prog 12 #[.pointer (some ⟨l, 0, none⟩), .int .i64 left, .slice A n c] w (UnP w B Φ l (unlockX a left xs)) := by
  unfold unlockX
  cases ho : a.out with
  | none => exact unlock_no h left A n c h0 h1 hn (fun d hd => by rw [ho] at hd; cases hd)
  | some d =>
    dsimp only
    by_cases hc : d.told = d.s.length ∧ left = ((d.s.length - d.came.length : Nat) : Int) ∧ (xs.length : Int) = min left 6
    · rw [if_pos hc]
      obtain ⟨c1, rfl, c3⟩ := hc
      exact unlock_yes h hB d ho A n c xs hx hr hu c1 (by rw [← hx]; exact c3)
    · rw [if_neg hc]
      refine unlock_no h left A n c h0 h1 hn (fun d' hd => ?_)
      rw [ho] at hd
      injection hd with hd
      subst hd
      rw [← hx]
      exact hc
theorem LAt.alloc' {w : World} {B l : Nat} {Φ : Nat → Prop} {a : LX} (h : LAt w B Φ l a) (o : Obj) : LAt (w.alloc o) B Φ l a := h.below (bl1 w o)
theorem key12 : keyL [1, 2] 4 = [236, 248] := by decide
theorem m135 : m13 5 = 5 := by decide
theorem seed12 : seedX ⟨5, 5, none⟩ 0 4 [1, 2] = (⟨5, 5, some ⟨[1, 2], 4, 2, []⟩⟩, 2, [1, 2], 0) := by
  unfold seedX
  rw [if_pos rfl, if_neg (by decide), if_neg (by decide)]
  rfl
theorem unlock12 : unlockX ⟨5, 5, some ⟨[1, 2], 4, 2, []⟩⟩ 2 [236, 248] = (⟨5, 1, none⟩, 0) := by
  unfold unlockX
  dsimp only
  rw [if_pos (by decide), if_neg (by decide), if_pos (by rw [key12]; rfl)]
  rfl
set_option maxRecDepth 100000 in
set_option maxHeartbeats 2000000 in
theorem shown_any (w : World) : Calls Try.prog 8 #[] w fun e w' => e = .returned (.bool true) ∧ Below w.heap.size w w' := by
  go_enter Try.func8, Try.ntmps8
  go_wp2_with fail
  refine (lnew_any 5 w w.heap.size (fun _ => False) (Nat.le_refl _) (by decide) (by decide)).mono ?_
  rintro e w1 ⟨rfl, hL, hb1⟩
  have hz1 := hb1.size
  rw [m135] at hL
  go_wp2_with fail
  refine calls_named fun W hW => ?_
  obtain ⟨BW, hbW⟩ := blk1 hW
  clear hW
  have hzW := hbW.size
  have hLW := hL.below hbW
  have S := seed_any hLW (by omega) 0 4 (by decide) (by decide) (by decide) (some ⟨w1.heap.size, 0, none⟩) 2 2 [1, 2] rfl (By.of_blk (cs := [.int .u8 1, .int .u8 2]) BW) (by decide)
  rw [seed12] at S
  have S := Lib.hid S
  refine S.out.mono ?_
  rintro e w2 ⟨A2, m2, c2, rfl, hm2, ho2, hL2, hc2⟩
  have hz2 := hc2.size
  dsimp only at hm2 ho2 hL2
  obtain rfl : m2 = 2 := hm2.symm
  have K := Lib.hid (key_any A2 2 c2 [1, 2] 4 w2 rfl ho2.rd (by decide) (by decide) (by decide))
  clear S hL hLW BW
  go_wp2_with fail
  refine K.out.mono ?_
  rintro e w3 ⟨A3, c3, rfl, ho3, hb3⟩
  rw [key12] at ho3
  have hz3 := hb3.size
  have hL3 := hL2.below hb3
  have cv1 := ho2.conv (n := 2) (P := Try.prog) (src := 22) (dst := 9) (e := 5) rfl rfl rfl rfl w3 hb3
  rw [show bstr [1, 2] = ⟨#[1, 2]⟩ from rfl] at cv1
  have cv2 := ho3.conv (n := 2) (P := Try.prog) (src := 22) (dst := 9) (e := 5) rfl rfl rfl rfl w3 (Below.refl _ _)
  have cv3 : ∀ cs, cs = #[Value.int .u8 236, .int .u8 248] → (convert 22 9 (.slice (some ⟨w3.heap.size, 0, none⟩) 2 2)).run Try.prog (w3.alloc (.cells cs 5)) = .ok (.string (bstr [236, 248])) (w3.alloc (.cells cs 5)) := fun cs hcs => by
    subst hcs
    exact run_conv (P := Try.prog) (src := 22) (dst := 9) (e := 5) rfl rfl rfl _ [236, 248] 2 2 _ _ ((Blk.new w3 5 #[.int .u8 236, .int .u8 248]).rd (cs := [.int .u8 236, .int .u8 248])) rfl
  have cv3 := cv3 _ rfl
  have U := unlock_any (hL3.alloc' (.cells #[.int .u8 236, .int .u8 248] 5)) (by simp; omega) 2 A3 2 c3 [236, 248] (by decide) (by decide) (by decide) rfl (ho3.alloc _).rd (by decide)
  rw [unlock12] at U
  have U := Lib.hid U
  clear K hL2
  go_wp2_with fail
  refine U.out.mono ?_
  rintro e w4 ⟨rfl, hL4, hc4⟩
  have hz4 := hc4.size
  go_wp2_with fail
  refine (locked_any hL4).mono ?_
  rintro e w' ⟨rfl, rfl⟩
  go_wp2_with fail
  go_ret
  refine ⟨rfl, ?_⟩
  have a1 : Below w.heap.size w w2 := (hb1.trans (hbW.mono hz1)).trans (hc2.below (by omega))
  have a2 : Below w.heap.size w w3 := a1.trans (hb3.mono (by omega))
  exact (a2.alloc (by omega) _).trans (hc4.below (by simp; omega))
set_option maxRecDepth 100000 in
set_option maxHeartbeats 2000000 in
theorem nil_any (m r left : Int) (A : Option Addr) (n c : Nat) (w : World) (hr0 : 0 ≤ r) (hr1 : r < 256) :
    Calls Try.prog 7 #[.int .u8 m, .int .u8 r, .int .i64 left, .slice A n c] w fun e w' => e = .returned (.bool true) ∧ Below w.heap.size w w' := by
  go_enter Try.func7, Try.ntmps7
  go_wp2_with fail
  refine (shown_any w).mono ?_
  rintro e w1 ⟨rfl, hb1⟩
  go_wp2_with fail
  refine (relock_nil _).mono ?_
  rintro e w' ⟨rfl, rfl⟩
  go_wp2_with fail
  refine (seed_nil _ _ _ _).mono ?_
  rintro e w' ⟨rfl, rfl⟩
  go_wp2_with fail
  refine (locked_nil _).mono ?_
  rintro e w' ⟨rfl, rfl⟩
  go_wp2_with fail
  refine (unlock_nil _ _ _).mono ?_
  rintro e w' ⟨rfl, rfl⟩
  have K := Lib.hid (key_any none 0 0 [] r w1 rfl Rd.nil (by decide) hr0 hr1)
  go_wp2_with fail
  refine K.out.mono ?_
  rintro e w3 ⟨A3, c3, rfl, ho3, hb3⟩
  go_wp2_with fail
  go_ret
  exact ⟨rfl, hb1.trans (hb3.mono hb1.size)⟩
end Go.Proofs.Ytgkmeekefinmkaa
