/- NumPuts: the walk. -/
import Derived.Test.YtpfcmepiiphbiaaNumP
namespace Go.Proofs.Ytpfcmepiiphbiaa
open Go.RowKit
set_option linter.unusedVariables false
set_option linter.unusedSimpArgs false
/-- Bytes, that read as a string in every grown world, and an error. -/
abbrev PutIs (f : Nat) (A : Option Addr) (n c : Nat) (v wide : Int) (big : Bool) (s : ByteArray) (er : Int) (W : World) : Prop :=
  Calls Try.prog f #[.slice A n c, .int .u64 v, .int .i64 wide, .bool big] W fun e w' => ∃ B m d, e = .returned (.tuple #[.slice B m d, .int .i64 er]) ∧ (∀ w2, Below w'.heap.size w' w2 → (convert 25 9 (.slice B m d)).run Try.prog w2 = .ok (.string s) w2) ∧ Below W.heap.size W w'
abbrev TakeIs (f : Nat) (A : Option Addr) (n c : Nat) (wide : Int) (big : Bool) (x : Int) (s : ByteArray) (er : Int) (W : World) : Prop :=
  Calls Try.prog f #[.slice A n c, .int .i64 wide, .bool big] W fun e w' => ∃ B m d, e = .returned (.tuple #[.int .u64 x, .slice B m d, .int .i64 er]) ∧ (∀ w2, Below w'.heap.size w' w2 → (convert 25 9 (.slice B m d)).run Try.prog w2 = .ok (.string s) w2) ∧ Below W.heap.size W w'
theorem nil_conv (w' : World) : ∀ w2, Below w'.heap.size w' w2 → (convert 25 9 (.slice none 0 0)).run Try.prog w2 = .ok (.string (bstr [])) w2 :=
  (Rd.nil (w := w') (B := w'.heap.size) (A := none)).conv (xs := []) Try.underlying25 Try.underlying5 Try.underlying9 (Nat.le_refl _) rfl
theorem puts_is (A : Option Addr) (n c : Nat) (xs : List Int) (v wide : Int) (big : Bool) (hx : xs.length = n) (hl : n ≤ 100000) (h0 : 0 ≤ v) (h1 : v < 18446744073709551616) :
    ∃ s er, (∀ W, Rd W W.heap.size A (u8s xs) → PutIs 17 A n c v wide big s er W) ∧ (∀ W, Rd W W.heap.size A (u8s xs) → PutIs 23 A n c v wide big s er W) := by
  cases hw : isW wide
  · refine ⟨bstr [], 1, fun W _ => (put_no A n c v wide big W hw).mono ?_, fun W _ => (rput_no A n c v wide big W hw).mono ?_⟩
    all_goals
      rintro e w' ⟨rfl, rfl⟩
      exact ⟨none, 0, 0, rfl, nil_conv _, Below.refl _ _⟩
  · obtain ⟨m, rfl⟩ : ∃ m : Nat, wide = m := ⟨wide.toNat, by have := isW_cases hw; omega⟩
    refine ⟨bstr (xs ++ putB v m big), 0, fun W hr => (put_any A n c xs v m big W hw hx hr hl h0 h1).mono ?_, fun W hr => (rput_any A n c xs v m big W hw hx hr hl h0 h1).mono ?_⟩
    all_goals
      rintro e w' ⟨B, d, rfl, hown, hb⟩
      exact ⟨B, _, d, rfl, hown.conv Try.underlying25 Try.underlying5 Try.underlying9 rfl, hb⟩
theorem takes_is (A : Option Addr) (n c : Nat) (xs : List Int) (wide : Int) (big : Bool) (hx : xs.length = n) (hn : n ≤ c) (hc : c ≤ maxLen) (hl : n ≤ 100000) (hu : ∀ x ∈ xs, 0 ≤ x ∧ x < 256) :
    ∃ x s er, (∀ W, Rd W W.heap.size A (u8s xs) → TakeIs 24 A n c wide big x s er W) ∧ (∀ W, Rd W W.heap.size A (u8s xs) → TakeIs 25 A n c wide big x s er W) := by
  cases hw : isW wide
  · refine ⟨0, bstr [], 1, fun W _ => (take_no A n c wide big W hw).mono ?_, fun W _ => (rtake_no A n c wide big W hw).mono ?_⟩
    all_goals
      rintro e w' ⟨rfl, rfl⟩
      exact ⟨none, 0, 0, rfl, nil_conv _, Below.refl _ _⟩
  · by_cases hs : (n : Int) < wide
    · refine ⟨0, bstr [], 5, fun W _ => (take_short A n c wide big W hw hs).mono ?_, fun W _ => (rtake_short A n c wide big W hw hs).mono ?_⟩
      all_goals
        rintro e w' ⟨rfl, rfl⟩
        exact ⟨none, 0, 0, rfl, nil_conv _, Below.refl _ _⟩
    · obtain ⟨m, rfl⟩ : ∃ m : Nat, wide = m := ⟨wide.toNat, by have := isW_cases hw; omega⟩
      refine ⟨takeB (xs.take m) big, bstr (xs.drop m), 0, fun W hr => (take_any A n c xs m big W hw (by omega) hx hr hn hl hc hu).mono ?_, fun W hr => (rtake_any A n c xs m big W hw (by omega) hx hr hn hl hc hu).mono ?_⟩
      all_goals
        rintro e w' ⟨B, d, rfl, hown, hb⟩
        exact ⟨B, _, d, rfl, hown.conv Try.underlying25 Try.underlying5 Try.underlying9 rfl, hb⟩
set_option maxHeartbeats 2000000 in
theorem puts_any (A : Option Addr) (n c : Nat) (xs : List Int) (v wide : Int) (big : Bool) (w : World) (h0 : 0 ≤ v) (h1 : v < 18446744073709551616) (hx : xs.length = n) (hb : Rd w w.heap.size A (u8s xs)) (hn : n ≤ c) (hc : c ≤ maxLen) (hA : A = none → n = 0 ∧ c = 0) (hu : ∀ x ∈ xs, 0 ≤ x ∧ x < 256) :
    Calls Try.prog 5 #[.slice A n c, .int .u64 v, .int .i64 wide, .bool big] w fun e w' => e = .returned (.bool true) ∧ Below w.heap.size w w' := by
  have hl : n ≤ maxLen := by omega
  have F := Lib.hid (fun W => few_any A n c W hn hl hA)
  have hy : (xs.take 20).length = min n 20 := by simp [hx, Nat.min_comm]
  have hr : Rd w w.heap.size A (u8s (xs.take 20)) := by
    have := hb.take 20
    rwa [← List.map_take] at this
  have hu' : ∀ x ∈ xs.take 20, 0 ≤ x ∧ x < 256 := fun x hx => hu x (List.mem_of_mem_take hx)
  have hk : min n 20 ≤ 100000 := by omega
  have hkc : min n 20 ≤ c := by omega
  clear hx hb hu hA hl
  generalize xs.take 20 = ys at *
  generalize min n 20 = k at *
  obtain ⟨s1, e1, p1, p2⟩ := puts_is A k c ys v wide big hy hk h0 h1
  obtain ⟨x, s2, e2, t1, t2⟩ := takes_is A k c ys wide big hy hkc hc hk hu'
  have P1 := Lib.hid p1
  have P2 := Lib.hid p2
  have T1 := Lib.hid t1
  have T2 := Lib.hid t2
  clear p1 p2 t1 t2 hy hu' hk hkc hc hn
  go_enter Try.func5, Try.ntmps5
  go_wp2_with fail
  refine (F.out _).mono ?_
  rintro e w' ⟨rfl, rfl⟩
  go_wp2_with fail
  refine (P1.out _ hr).mono ?_
  rintro e w1 ⟨A1, n1, c1, rfl, r1, hb1⟩
  have R1 := Lib.hid r1
  have hr1 := (hr.below hb1).more hb1.size
  clear r1
  go_wp2_with fail
  refine (F.out _).mono ?_
  rintro e w' ⟨rfl, rfl⟩
  go_wp2_with fail
  refine (P2.out _ hr1).mono ?_
  rintro e w2 ⟨A2, n2, c2, rfl, r2, hb2⟩
  have R2 := Lib.hid r2
  have hr2 := (hr1.below hb2).more hb2.size
  clear r2
  go_wp2_with fail
  refine (F.out _).mono ?_
  rintro e w' ⟨rfl, rfl⟩
  go_wp2_with fail
  refine (T1.out _ hr2).mono ?_
  rintro e w3 ⟨A3, n3, c3, rfl, r3, hb3⟩
  have R3 := Lib.hid r3
  have hr3 := (hr2.below hb3).more hb3.size
  clear r3
  go_wp2_with fail
  refine (F.out _).mono ?_
  rintro e w' ⟨rfl, rfl⟩
  go_wp2_with fail
  refine (T2.out _ hr3).mono ?_
  rintro e w4 ⟨A4, n4, c4, rfl, r4, hb4⟩
  have R4 := Lib.hid r4
  clear r4
  go_wp2_with fail
  refine (shown_any _).mono ?_
  rintro e w5 ⟨rfl, hb5⟩
  have q1 := R1.out w5 (bel2 (bel2 (bel2 hb2 hb3) hb4) hb5)
  have q2 := R2.out w5 (bel2 (bel2 hb3 hb4) hb5)
  have q3 := R3.out w5 (bel2 hb4 hb5)
  have q4 := R4.out w5 hb5
  go_wp2_with fail
  go_ret
  exact ⟨rfl, bel2 (bel2 (bel2 (bel2 hb1 hb2) hb3) hb4) hb5⟩
end Go.Proofs.Ytpfcmepiiphbiaa
