/- sum.Of of the kinds, the walks (printed by gen_of.py). -/
import Derived.Test.YtpfcmepiiphbiaaS1
import Derived.Laws.EntriesVeiled
namespace Go.Proofs.Ytpfcmepiiphbiaa
open Go.RowKit
set_option linter.unusedVariables false
set_option linter.unusedSimpArgs false
theorem Rd.drop {w : World} {B b o : Nat} {xs : List Int} (h : Rd w B (some ⟨b, o, none⟩) (u8s xs)) (k : Nat) : Rd w B (some ⟨b, o + k, none⟩) (u8s (xs.drop k)) := fun hn => by
  have hn' : u8s xs ≠ [] := by
    intro h
    apply hn
    have : xs = [] := by simpa using h
    rw [this]; simp
  obtain ⟨b', o', e, hb, hc⟩ := h hn'
  simp only [Option.some.injEq, Addr.mk.injEq, and_true] at e
  obtain ⟨rfl, rfl⟩ := e
  refine ⟨b, o + k, rfl, hb, fun i u hu => ?_⟩
  rw [Nat.add_assoc]
  refine hc (k + i) u ?_
  simpa [List.getElem?_drop] using hu
/-- num.Take of a word that stands within bytes. -/
def TakeP (w : World) (v : Nat) (e : Ending) (w' : World) : Prop := ∃ A' c', e = .returned (.tuple #[.int .u64 v, .slice A' 0 c', .int .i64 0]) ∧ Below w.heap.size w w'
theorem take_at (bb oo c : Nat) (xs : List Int) (t wd : Nat) (big : Bool) (w : World) (hw : isW wd = true) (ht : t + wd ≤ xs.length) (hr : Rd w w.heap.size (some ⟨bb, oo, none⟩) (u8s xs)) (hn : xs.length ≤ c) (hc : c ≤ maxLen) (hu : b8 xs) :
    Calls Try.prog 24 #[.slice (some ⟨bb, oo + t, none⟩) wd (c - t : Nat), .int .i64 wd, .bool big] w (TakeP w (wordV xs wd big t)) := by
  have hwl : wd ≤ 8 := by rcases isW_cases hw with h | h | h | h <;> omega
  have hu' : b8 ((xs.drop t).take wd) := fun x hx => hu x (List.mem_of_mem_drop (List.mem_of_mem_take hx))
  refine (take_any (some ⟨bb, oo + t, none⟩) wd (c - t) ((xs.drop t).take wd) wd big w hw (Nat.le_refl _) (by rw [List.length_take, List.length_drop]; omega) ((hr.drop t).take' wd) (by omega) (by omega) (by omega) hu').mono ?_
  rintro e w' ⟨A', c', rfl, ho, hb⟩
  rw [List.take_take, Nat.min_self, wordV_eq xs wd big t hu, List.drop_eq_nil_of_le (by rw [List.length_take]; omega)]
  exact ⟨A', c', rfl, hb⟩
theorem conv32 (v : Nat) (h : v < 4294967296) : IntKind.u32.wrap (v : Int) = (v : Int) := by rw [IntKind.wrap_u32]; omega
theorem u32_not (r : Nat) (hr : r < 4294967296) : bits .xor .u32 IntKind.u32.max (r : Int) = ((4294967295 - r : Nat) : Int) := by
  have h := u32_xor_nat 4294967295 r (by decide) hr
  have e : 4294967295 ^^^ r = 4294967295 - r := by
    apply Nat.eq_of_testBit_eq
    intro i
    rw [Nat.testBit_xor, show (4294967295 : Nat) = 2 ^ 32 - 1 by decide, Nat.testBit_two_pow_sub_one, show 2 ^ 32 - 1 - r = 2 ^ 32 - (r + 1) by omega, Nat.testBit_two_pow_sub_succ (by omega)]
    by_cases hi : i < 32
    · simp [hi]
    · have : r.testBit i = false := Nat.testBit_lt_two_pow (by have := Nat.pow_le_pow_right (n := 2) (by decide) (show 32 ≤ i by omega); omega)
      simp [hi, this]
  rw [e] at h
  exact h
end Go.Proofs.Ytpfcmepiiphbiaa
