/- NumOrder: the walk. -/
import Derived.Test.YtpfcmepiiphbiaaNumP
namespace Go.Proofs.Ytpfcmepiiphbiaa
open Go.RowKit
set_option linter.unusedVariables false
set_option linter.unusedSimpArgs false
/-- What a number's bytes are, and how they read as a string in every grown world. -/
theorem put_conv (v : Int) (m : Nat) (big : Bool) (W : World) (hw : isW m = true) (h0 : 0 ≤ v) (h1 : v < 18446744073709551616) :
    Calls Try.prog 17 #[.slice none 0 0, .int .u64 v, .int .i64 m, .bool big] W fun e w' => ∃ A c, e = .returned (.tuple #[.slice A m c, .int .i64 0]) ∧ (∀ w2, Below w'.heap.size w' w2 → (convert 25 9 (.slice A m c)).run Try.prog w2 = .ok (.string (bstr (putB v m big))) w2) ∧ Own w' W.heap.size 5 1 A m c (u8s (putB v m big)) ∧ Below W.heap.size W w' := by
  refine (put_any none 0 0 [] v m big W hw rfl Rd.nil (by omega) h0 h1).mono ?_
  rintro e w' ⟨A, c, rfl, hown, hb⟩
  rw [List.nil_append] at hown ⊢
  have el := putB_len v m big
  rw [el] at hown ⊢
  exact ⟨A, c, rfl, hown.conv Try.underlying25 Try.underlying5 Try.underlying9 el.symm, hown, hb⟩
theorem wide_cases (u : Int) : u % 4 = 0 ∨ u % 4 = 1 ∨ u % 4 = 2 ∨ u % 4 = 3 := by omega
set_option maxHeartbeats 2000000 in
theorem order_any (a b u : Int) (w : World) (ha : 0 ≤ a) (ha' : a < 18446744073709551616) (hb : 0 ≤ b) (hb' : b < 18446744073709551616) (hu : 0 ≤ u) (hu' : u < 256) :
    Calls Try.prog 3 #[.int .u64 a, .int .u64 b, .int .u8 u] w fun e w' => e = .returned (.bool true) ∧ Below w.heap.size w w' := by
  have key : ∀ m : Nat, m ≤ 8 → isW m = true → (∀ (W : World) , True) → True := fun _ _ _ _ => trivial
  rcases wide_cases u with h | h | h | h
  case' inl => obtain ⟨m, hm⟩ : ∃ m : Nat, m = 1 := ⟨_, rfl⟩
  case' inr.inl => obtain ⟨m, hm⟩ : ∃ m : Nat, m = 2 := ⟨_, rfl⟩
  case' inr.inr.inl => obtain ⟨m, hm⟩ : ∃ m : Nat, m = 4 := ⟨_, rfl⟩
  case' inr.inr.inr => obtain ⟨m, hm⟩ : ∃ m : Nat, m = 8 := ⟨_, rfl⟩
  all_goals
    have hw : isW m = true := by rw [hm]; rfl
    have hm8 : m ≤ 8 := by omega
    have P1 := Lib.hid (fun W => put_conv a m true W hw ha ha')
    have P2 := Lib.hid (fun W => put_conv b m true W hw hb hb')
    have M := Lib.hid (fun W => mask_any m W hw)
    have e1 := mask_and a m ha ha' hm8
    have e2 := mask_and b m hb hb' hm8
    have l1 := order_less a b m
    have l2 := order_eql a b m
    generalize putB a m true = p at *
    generalize putB b m true = q at *
    generalize maskV m = k at *
    generalize a % (256 : Int) ^ m = x at *
    generalize b % (256 : Int) ^ m = y at *
    subst hm
    obtain ⟨L, hL⟩ : ∃ L, decide (x < y) = L := ⟨_, rfl⟩
    obtain ⟨E, hE⟩ : ∃ E, (x == y) = E := ⟨_, rfl⟩
    rw [hL] at l1
    rw [hE] at l2
    clear key hw hm8
    go_enter Try.func3, Try.ntmps3
    go_wp2_with fail
    refine (shown_any _).mono ?_
    rintro e w1 ⟨rfl, hb1⟩
    go_wp2_with fail
    refine (M.out _).mono ?_
    rintro e w' ⟨rfl, rfl⟩
    go_wp2_with fail
    refine (M.out _).mono ?_
    rintro e w' ⟨rfl, rfl⟩
    go_wp2_with fail
    refine (P1.out _).mono ?_
    rintro e w2 ⟨A2, c2, rfl, hc2, -, hb2⟩
    go_wp2_with fail
    refine (P2.out _).mono ?_
    rintro e w3 ⟨A3, c3, rfl, hc3, -, hb3⟩
    have z3 := Below.refl w3.heap.size w3
    go_wp2_with fail
    go_ret
    exact ⟨rfl, bel2 (bel2 hb1 hb2) hb3⟩
end Go.Proofs.Ytpfcmepiiphbiaa
