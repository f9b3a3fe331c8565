/- Keys; Clone; Equal. -/
import Derived.Test.YteecgdbicokgoaaTyp
import Derived.Test.YteecgdbicokgoaaNP
import Derived.Test.YteecgdbicokgoaaOpen
namespace Go.Proofs.Yteecgdbicokgoaa
open Go.RowKit
set_option linter.unusedVariables false
set_option linter.unusedSimpArgs false
set_option maxRecDepth 100000
/-- New bytes of the call's own are handed back. -/
def RetN (w : World) (xs : List Int) (n : Nat) (e : Ending) (w' : World) : Prop := ∃ A c, e = .returned (.slice A n c) ∧ Own w' w.heap.size 5 1 A n c (u8s xs) ∧ Below w.heap.size w w'
set_option maxHeartbeats 1000000 in
theorem clone_any (A : Option Addr) (n c : Nat) (xs : List Int) (w : World) (hx : xs.length = n) (hr : Rd w w.heap.size A (u8s xs)) (hA : A = none → n = 0 ∧ c = 0) (hl : n ≤ 1000000) :
    Calls Try.prog 40 #[.slice A n c] w (RetN w xs n) := by
  subst hx
  cases A with
  | none =>
    obtain ⟨h0, rfl⟩ := hA rfl
    obtain rfl : xs = [] := List.eq_nil_of_length_eq_zero h0
    have he := Lib.run_eql_slice_nil (P := Try.prog) w 22 5 none 0 0 0 0 Try.underlying22
    go_enter Try.func40, Try.ntmps40
    go_wp2
    go_ret
    exact ⟨none, 0, rfl, Own.nil _ _ _ _, Below.refl _ _⟩
  | some a =>
    have he := fun w => Lib.run_eql_slice_nil (P := Try.prog) w 22 5 (some a) xs.length c 0 0 Try.underlying22
    have hbel := (Below.refl w.heap.size w).alloc (Nat.le_refl _) (.cells #[] 5)
    have ho := Own.made (e := 5) (size := 1) w (Nat.le_refl _) #[] 0 0 (by decide) (by decide) rfl
    have hr' := hr.al (.cells #[] 5)
    clear hA
    go_enter Try.func40, Try.ntmps40
    go_wp2_with (at_builtin; refine wpList_app _ rfl (.tmp 5) (.tmp 6) 22 rfl w.heap.size 5 (.int .u8 0) 1 1 Try.underlying22 info5 rfl (by decide) _ 0 0 [] rfl ho _ _ xs.length c _ rfl (by simp) hr' (u8s_one _) (by unfold maxLen; omega) (by omega) (by simp) ?_; intro A' c' w' hown hg hbk)
    go_ret
    simp only [Nat.zero_add, List.nil_append] at hown
    exact ⟨A', c', by simp, hown, bel_app hbel ho (Nat.le_refl _) hg⟩
theorem equal_any (A B : Option Addr) (n c m d : Nat) (xs ys : List Int) (w : World) (hx : xs.length = n) (hy : ys.length = m) (h1 : Rd w w.heap.size A (u8s xs)) (h2 : Rd w w.heap.size B (u8s ys)) (hu : ∀ x ∈ xs, 0 ≤ x ∧ x < 256) (hv : ∀ x ∈ ys, 0 ≤ x ∧ x < 256) :
    Calls Try.prog 126 #[.slice A n c, .slice B m d] w fun e w' => e = .returned (.bool (decide (xs = ys))) ∧ w = w' := by
  have c1 := h1.conv (P := Try.prog) (src := 22) (dst := 9) (e := 5) (c := c) rfl rfl rfl (Nat.le_refl _) hx.symm w (Below.refl _ _)
  have c2 := h2.conv (P := Try.prog) (src := 22) (dst := 9) (e := 5) (c := d) rfl rfl rfl (Nat.le_refl _) hy.symm w (Below.refl _ _)
  have hb := bstr_beq xs ys hu hv
  generalize decide (xs = ys) = r at *
  go_enter Try.func126, Try.ntmps126
  go_wp2_with fail
  go_ret
  exact ⟨rfl, rfl⟩
theorem u8s_sn (xs : List Int) (x : Int) : u8s (xs ++ [x]) = u8s xs ++ [.int .u8 x] := by simp
/-- A byte of a key. -/
def keyB (s : List Int) (r : Int) (k : Nat) : Int := bits .xor .u8 (s.getD ((k + 1) % s.length) 0) ((37 * r + 11 * k + 90) % 256)
def keyT (s : List Int) (r : Int) (k : Nat) : List Int := (List.range k).map (keyB s r)
/-- The key of a seed. -/
def keyL (s : List Int) (r : Int) : List Int := keyT s r s.length
theorem keyT_succ (s : List Int) (r : Int) (k : Nat) : keyT s r k ++ [keyB s r k] = keyT s r (k + 1) := by simp [keyT, List.range_succ]
theorem keyT_len (s : List Int) (r : Int) (k : Nat) : (keyT s r k).length = k := by simp [keyT]
theorem keyL_len (s : List Int) (r : Int) : (keyL s r).length = s.length := keyT_len _ _ _
theorem key0 (r : Int) : IntKind.u8.wrap (IntKind.u8.wrap (37 * r) + 90) = (37 * r + 11 * ((0 : Nat) : Int) + 90) % 256 := by
  rw [IntKind.wrap_u8, IntKind.wrap_u8]; omega
set_option maxRecDepth 100000 in
set_option maxHeartbeats 1000000 in
theorem key_any (A : Option Addr) (n c : Nat) (xs : List Int) (r : Int) (w : World) (hx : xs.length = n) (hr : Rd w w.heap.size A (u8s xs)) (hl : n ≤ 1000000) (hr0 : 0 ≤ r) (hr1 : r < 256) :
    Calls Try.prog 9 #[.slice A n c, .int .u8 r] w (RetN w (keyL xs r) n) := by
  have HX := Lib.hid hx
  have HK : Hid (keyL xs r = keyT xs r n) := by unfold keyL; rw [hx]; exact Lib.hid rfl
  clear hx
  obtain ⟨c1, hc1⟩ : ∃ c1, 37 * r % 256 = c1 := ⟨_, rfl⟩
  have HC : Hid ((c1 + 90) % 256 = (37 * r + 11 * ((0 : Nat) : Int) + 90) % 256) := Lib.hid (by omega)
  go_enter Try.func9, Try.ntmps9
  go_wp2_with fail
  clear hc1
  go_loopw [5, 6, 13] (fun v y i wr => ∃ (k : Nat) (B : Option Addr) (d : Nat), k ≤ n ∧ i = .int .i64 k ∧ y = .int .u8 ((37 * r + 11 * k + 90) % 256) ∧ v = .slice B k d ∧ Own wr w.heap.size 5 1 B k d (u8s (keyT xs r k)) ∧ Below w.heap.size w wr) (fun _ _ i _ => n - (intOf i).toNat)
  case atStart => exact ⟨0, none, 0, Nat.zero_le _, rfl, congrArg (Value.int .u8) HC.out, rfl, Own.nil _ _ _ _, Below.refl _ _⟩
  case round =>
    obtain ⟨k, B, d, hk, rfl, rfl, rfl, ho, hb⟩ := hrel
    have hz := hb.size
    by_cases hlt : k < n
    · have hlt' : (k : Int) < n := by omega
      obtain ⟨m, hm⟩ : ∃ m, (k + 1) % n = m := ⟨_, rfl⟩
      have hmn : m < n := by rw [← hm]; exact Nat.mod_lt _ (by omega)
      have hmI : ((k : Int) + 1) % (n : Int) = (m : Int) := by rw [← hm]; simp
      have hmn' : (m : Int) < n := by omega
      obtain ⟨b, o, rfl, hbw, hcell⟩ := hr (by intro h; have := HX.out; simp at h; subst h; simp at this; omega)
      have cx := hcell m (.int .u8 (xs.getD m 0)) (by rw [List.getElem?_map, List.getElem?_eq_getElem (by rw [HX.out]; exact hmn)]; simp [List.getElem?_eq_getElem (show m < xs.length by rw [HX.out]; exact hmn)])
      have cx : wr.cell? ⟨b, o + m, none⟩ = some (.int .u8 (xs.getD m 0)) := (hb.cell (p := ⟨b, o + m, none⟩) hbw).trans cx
      have HKB : Hid (keyB xs r k = bits .xor .u8 (xs.getD m 0) ((37 * r + 11 * k + 90) % 256)) := by unfold keyB; rw [HX.out, hm]; exact Lib.hid rfl
      clear hcell hm
      generalize xs.getD m 0 = x at *
      have hns : ((37 * r + 11 * k + 90) % 256 + 11) % 256 = (37 * r + 11 * ((k + 1 : Nat) : Int) + 90) % 256 := by omega
      have HNS := Lib.hid hns
      clear hns
      have hn0 : 0 ≤ (37 * r + 11 * (k : Int) + 90) % 256 := by omega
      have hn1 : (37 * r + 11 * (k : Int) + 90) % 256 < 256 := by omega
      generalize (37 * r + 11 * (k : Int) + 90) % 256 = y at *
      go_wp2_with (at_builtin; refine wpList_app _ rfl (.tmp 16) (.tmp 27) 22 rfl w.heap.size 5 (.int .u8 0) 1 1 Try.underlying22 info5 rfl (by decide) B k d _ rfl (ho.alloc _) _ _ 1 1 _ rfl rfl (Rd.one _ _ 5) (by intro u hu; simp at hu; subst hu; rfl) (by unfold maxLen; omega) (by omega) (by simp; omega) ?_; intro A' c' w' ho3 hg hbk)
      go_roundw
      case rel =>
        refine ⟨k + 1, A', c', by omega, by go_num, by rw [HNS.out], rfl, ?_, bel_app (hb.alloc hz _) (ho.alloc _) (Nat.le_refl _) hg⟩
        rw [← keyT_succ, HKB.out, u8s_sn]
        exact ho3
      case measure => simp [intOf]; omega
    · obtain rfl : k = n := by omega
      go_wp2_with fail
      go_ret
      rw [HK.out]
      exact ⟨B, d, rfl, ho, hb⟩
end Go.Proofs.Yteecgdbicokgoaa
