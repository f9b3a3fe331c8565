/- NumCuts: the plain words and small contracts. -/
import Derived.Test.YtpfcmepiiphbiaaLawFits
namespace Go.Proofs.Ytpfcmepiiphbiaa
open Go.RowKit
set_option linter.unusedVariables false
set_option linter.unusedSimpArgs false
abbrev u64s (xs : List Int) : List Value := xs.map (Value.int .u64)
abbrev i64s (xs : List Int) : List Value := xs.map (Value.int .i64)
theorem info22 : (Try.prog.info? 22).map (fun i => (i.zero, i.size, i.bytes)) = some (some (.int .u64 0), 1, 8) := by kernel_rfl
theorem info3 : (Try.prog.info? 3).map (fun i => (i.zero, i.size, i.bytes)) = some (some (.int .i64 0), 1, 8) := by kernel_rfl
/-- The width of number i. -/
def kkOf (ws : List Int) (i : Nat) : Nat := match ws[i]? with
  | none => 1
  | some y => if y % 4 = 0 then 1 else if y % 4 = 1 then 2 else if y % 4 = 2 then 4 else 8
theorem kkOf_w (ws : List Int) (i : Nat) : isW (kkOf ws i) = true ∧ kkOf ws i ≤ 8 ∧ 1 ≤ kkOf ws i := by
  unfold kkOf
  split
  · exact ⟨rfl, by decide, by decide⟩
  · split
    · exact ⟨rfl, by decide, by decide⟩
    · split
      · exact ⟨rfl, by decide, by decide⟩
      · split
        · exact ⟨rfl, by decide, by decide⟩
        · exact ⟨rfl, by decide, by decide⟩
def segB (vs ws : List Int) (big : Bool) (i : Nat) : List Int := putB (vs.getD i 0) (kkOf ws i) big
def catB (vs ws : List Int) (big : Bool) (k : Nat) : List Int := (List.range' 0 k).flatMap (segB vs ws big)
def restB (vs ws : List Int) (big : Bool) (n i : Nat) : List Int := (List.range' i (n - i)).flatMap (segB vs ws big)
def wantL (vs ws : List Int) (k : Nat) : List Int := (List.range k).map fun i => vs.getD i 0 % (256 : Int) ^ kkOf ws i
def wideL (ws : List Int) (k : Nat) : List Int := (List.range k).map fun i => (kkOf ws i : Int)
theorem catB_succ (vs ws : List Int) (big : Bool) (k : Nat) : catB vs ws big k ++ putB (vs.getD k 0) (kkOf ws k) big = catB vs ws big (k + 1) := by
  simp [catB, List.range'_concat, segB]
theorem wantL_succ (vs ws : List Int) (k : Nat) : wantL vs ws k ++ [vs.getD k 0 % (256 : Int) ^ kkOf ws k] = wantL vs ws (k + 1) := by simp [wantL, List.range_succ]
theorem wideL_succ (ws : List Int) (k : Nat) : wideL ws k ++ [(kkOf ws k : Int)] = wideL ws (k + 1) := by simp [wideL, List.range_succ]
theorem wantL_get (vs ws : List Int) (n k : Nat) (h : k < n) : (wantL vs ws n)[k]? = some (vs.getD k 0 % (256 : Int) ^ kkOf ws k) := by simp [wantL, h]
theorem wideL_get (ws : List Int) (n k : Nat) (h : k < n) : (wideL ws n)[k]? = some (kkOf ws k : Int) := by simp [wideL, h]
theorem cat_rest (vs ws : List Int) (big : Bool) (n : Nat) : catB vs ws big n = restB vs ws big n 0 := by simp [catB, restB]
theorem rest_succ (vs ws : List Int) (big : Bool) (n i : Nat) (h : i < n) : restB vs ws big n i = putB (vs.getD i 0) (kkOf ws i) big ++ restB vs ws big n (i + 1) := by
  unfold restB
  rw [show n - i = (n - (i + 1)) + 1 by omega, List.range'_succ, List.flatMap_cons]
  rfl
theorem rest_end (vs ws : List Int) (big : Bool) (n : Nat) : restB vs ws big n n = [] := by simp [restB]
theorem rest_bd (vs ws : List Int) (big : Bool) (n i : Nat) : ∀ x ∈ restB vs ws big n i, 0 ≤ x ∧ x < 256 := by
  intro x hx
  obtain ⟨j, _, hj⟩ := List.mem_flatMap.1 hx
  exact putB_bd _ _ _ x hj
theorem rest_len (vs ws : List Int) (big : Bool) (n : Nat) : ∀ i j, i + j = n → (restB vs ws big n i).length ≤ 8 * j
  | i, 0, h => by obtain rfl : i = n := by omega
                  rw [rest_end]; simp
  | i, j + 1, h => by
    have ih := rest_len vs ws big n (i + 1) j (by omega)
    rw [rest_succ _ _ _ _ _ (by omega), List.length_append, putB_len]
    have := (kkOf_w ws i).2.1
    omega
theorem cat_len (vs ws : List Int) (big : Bool) (k : Nat) : (catB vs ws big k).length ≤ 8 * k := by
  rw [cat_rest]; exact rest_len vs ws big k 0 k (by omega)
/-- Two rows of different kinds lie in two blocks. -/
theorem own_own_ne {w : World} {b1 b2 : Nat} {e1 e2 : TypeId} {s1 s2 n1 n2 c1 c2 : Nat} {A1 A2 : Option Addr} {xs ys : List Value} (h1 : Own w b1 e1 s1 A1 n1 c1 xs) (h2 : Own w b2 e2 s2 A2 n2 c2 ys) (hne : e1 ≠ e2) : blkOf A1 = none ∨ blkOf A1 ≠ blkOf A2 := by
  cases A1 with
  | none => exact .inl rfl
  | some a =>
    right
    intro hh
    obtain ⟨g, off, cur, rfl, _, hc, _⟩ := h1.2.2.2.2 a rfl
    cases A2 with
    | none => simp [blkOf] at hh
    | some a2 =>
      obtain ⟨g2, off2, cur2, rfl, _, hc2, _⟩ := h2.2.2.2.2 a2 rfl
      simp [blkOf] at hh
      subst hh
      rw [hc] at hc2
      injection hc2 with hc2
      injection hc2 with _ ht
      exact hne ht
theorem put_n (A : Option Addr) (n c : Nat) (xs : List Int) (v : Int) (m : Nat) (big : Bool) (w : World) (hw : isW m = true) (hx : xs.length = n) (hr : Rd w w.heap.size A (u8s xs)) (hl : n ≤ 100000) (h0 : 0 ≤ v) (h1 : v < 18446744073709551616) :
    Calls Try.prog 17 #[.slice A n c, .int .u64 v, .int .i64 m, .bool big] w fun e w' => ∃ A c, e = .returned (.tuple #[.slice A (n + m) c, .int .i64 0]) ∧ Own w' w.heap.size 5 1 A (n + m) c (u8s (xs ++ putB v m big)) ∧ Below w.heap.size w w' := by
  refine (put_any A n c xs v m big w hw hx hr hl h0 h1).mono ?_
  rintro e w' ⟨A, c, rfl, ho, hb⟩
  have el : (xs ++ putB v m big).length = n + m := by rw [List.length_append, hx, putB_len]
  rw [el] at ho ⊢
  exact ⟨A, c, rfl, ho, hb⟩
end Go.Proofs.Ytpfcmepiiphbiaa
