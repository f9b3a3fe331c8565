/- slices.IndexFunc, ContainsFunc at packets; slices.Clone at bytes. -/
import Derived.Test.YtchneedpgpocnaaQ0
namespace Go.Proofs.Ytchneedpgpocnaa
open Go.RowKit
set_option linter.unusedVariables false
set_option linter.unusedSimpArgs false
theorem info5 : (Try.prog.info? 5).map (fun i => (i.zero, i.size, i.bytes)) = some (some (.int .u8 0), 1, 1) := by kernel_rfl
theorem bad_at (l : List It) (k : Nat) (t : It) (h : l[k]? = some t) (hb : 64 ≤ t.code) : bad l = true := by
  simp only [bad, List.any_eq_true]
  exact ⟨t, List.mem_of_getElem? h, by simpa using hb⟩
theorem bad_no (l : List It) (h : ∀ (k : Nat) (t : It), l[k]? = some t → t.code < 64) : bad l = false := by
  rw [bad, List.any_eq_false]
  intro t ht
  obtain ⟨k, hk, rfl⟩ := List.mem_iff_getElem.1 ht
  have := h k _ (List.getElem?_eq_getElem hk)
  simp; omega
def IdxP (w : World) (l : List It) (e : Ending) (w' : World) : Prop := ∃ i : Int, e = .returned (.int .i64 i) ∧ decide (0 ≤ i) = bad l ∧ Below w.heap.size w w'
set_option maxHeartbeats 1000000 in
theorem index_any (A : Option Addr) (n c : Nat) (l : List It) (w : World) (hx : l.length = n) (hl : n ≤ maxLen) (hr : Rd w w.heap.size A (cellsL l)) :
    Calls Try.prog 23 #[.slice A n c, .func (.func 21) #[] #[]] w (IdxP w l) := by
  unfold maxLen at hl
  have HX := Lib.hid hx
  clear hx
  go_enter Try.func23, Try.ntmps23
  go_wp2
  go_loopw [8] (fun i wr => ∃ k : Nat, k ≤ n ∧ i = .int .i64 k ∧ (∀ (j : Nat) (t : It), j < k → l[j]? = some t → t.code < 64) ∧ Below w.heap.size w wr) (fun i _ => n - (intOf i).toNat)
  case atStart => exact ⟨0, Nat.zero_le _, rfl, fun j t h => by omega, Below.refl _ _⟩
  case round =>
    obtain ⟨k, hk, rfl, hno, hb⟩ := hrel
    have HNo := Lib.hid hno
    clear hno
    by_cases hlt : k < n
    · have hlt' : (k : Int) < n := by omega
      obtain ⟨t, ht⟩ : ∃ t, l[k]? = some t := ⟨_, List.getElem?_eq_getElem (by rw [HX.out]; exact hlt)⟩
      obtain ⟨b, o, rfl, -, hc⟩ := hr.below hb (by intro h; have h2 := cellsL_len l; rw [h, HX.out] at h2; simp at h2; omega)
      obtain ⟨g0, g1, g2⟩ := cellsL_get l k t ht
      have q0 := hc _ _ g0
      have q1 := hc _ _ g1
      have q2 := hc _ _ g2
      rw [← Nat.add_assoc] at q1 q2
      have HT := Lib.hid ht
      clear ht hc g0 g1 g2
      have hz := hb.size
      by_cases h64 : 64 ≤ t.code
      · have hd : decide (64 ≤ t.code) = true := by simpa using h64
        go_wp2_with (go_at_call 21; refine (big_any t _).mono ?_; rintro e w1 ⟨rfl, hb1⟩)
        go_ret
        exact ⟨k, rfl, by rw [bad_at l k t HT.out h64]; simp, hb.trans (hb1.mono hz)⟩
      · have hd : decide (64 ≤ t.code) = false := by simpa using h64
        go_wp2_with (go_at_call 21; refine (big_any t _).mono ?_; rintro e w1 ⟨rfl, hb1⟩)
        go_roundw
        case rel =>
          refine ⟨k + 1, by omega, by go_num, fun j t' hj h => ?_, hb.trans (hb1.mono hz)⟩
          rcases Nat.lt_or_ge j k with h' | h'
          · exact HNo.out j t' h' h
          · obtain rfl : j = k := by omega
            rw [HT.out] at h
            injection h with h
            subst h
            omega
        case measure => simp [intOf]; omega
    · obtain rfl : k = n := by omega
      go_wp2
      go_ret
      refine ⟨-1, rfl, ?_, hb⟩
      rw [bad_no l fun j t h => HNo.out j t (by rw [← HX.out]; exact (List.getElem?_eq_some_iff.1 h).1) h]
      rfl
theorem contains_any (A : Option Addr) (n c : Nat) (l : List It) (w : World) (hx : l.length = n) (hl : n ≤ maxLen) (hr : Rd w w.heap.size A (cellsL l)) :
    Calls Try.prog 20 #[.slice A n c, .func (.func 21) #[] #[]] w fun e w' => e = .returned (.bool (bad l)) ∧ Below w.heap.size w w' := by
  have C := Lib.hid (index_any A n c l w hx hl hr)
  go_enter Try.func20, Try.ntmps20
  go_wp2_with fail
  refine C.out.mono ?_
  rintro e w' ⟨i, rfl, hi, hb⟩
  have Hi := Lib.hid hi
  clear hi
  go_wp2_with fail
  go_ret
  exact ⟨ret_bool Hi.out, hb⟩
def RetB (w : World) (xs : List Int) (e : Ending) (w' : World) : Prop := ∃ A c, e = .returned (.slice A xs.length c) ∧ Own w' w.heap.size 5 1 A xs.length c (u8s xs) ∧ Below w.heap.size w w'
set_option maxHeartbeats 1000000 in
theorem clone_any (A : Option Addr) (n c : Nat) (xs : List Int) (w : World) (hx : xs.length = n) (hr : Rd w w.heap.size A (u8s xs)) (hA : A = none → n = 0 ∧ c = 0) (hl : n ≤ 1000000) :
    Calls Try.prog 22 #[.slice A n c] w (RetB w xs) := by
  subst hx
  cases A with
  | none =>
    obtain ⟨h0, rfl⟩ := hA rfl
    obtain rfl : xs = [] := List.eq_nil_of_length_eq_zero h0
    have he := Lib.run_eql_slice_nil (P := Try.prog) w 22 5 none 0 0 0 0 Try.underlying22
    go_enter Try.func22, Try.ntmps22
    go_wp2
    go_ret
    exact ⟨none, 0, rfl, Own.nil _ _ _ _, Below.refl _ _⟩
  | some a =>
    have he := fun w => Lib.run_eql_slice_nil (P := Try.prog) w 22 5 (some a) xs.length c 0 0 Try.underlying22
    have hbel := (Below.refl w.heap.size w).alloc (Nat.le_refl _) (.cells #[] 5)
    have ho := Own.made (e := 5) (size := 1) w (Nat.le_refl _) #[] 0 0 (by decide) (by decide) rfl
    have hr' := hr.al (.cells #[] 5)
    clear hA
    go_enter Try.func22, Try.ntmps22
    go_wp2_with (at_builtin; refine wpList_app _ rfl (.tmp 5) (.tmp 6) 22 rfl w.heap.size 5 (.int .u8 0) 1 1 Try.underlying22 info5 rfl (by decide) _ 0 0 [] rfl ho _ _ xs.length c _ rfl (by simp) hr' (u8s_one _) (by unfold maxLen; omega) (by omega) (by simp) ?_; intro A' c' w' hown hg hbk)
    go_ret
    simp only [Nat.zero_add, List.nil_append] at hown
    exact ⟨A', c', by simp, hown, bel_app hbel ho (Nat.le_refl _) hg⟩
theorem clone_n (A : Option Addr) (n c : Nat) (xs : List Int) (w : World) (hx : xs.length = n) (hr : Rd w w.heap.size A (u8s xs)) (hA : A = none → n = 0 ∧ c = 0) (hl : n ≤ 1000000) :
    Calls Try.prog 22 #[.slice A n c] w fun e w' => ∃ A' c', e = .returned (.slice A' n c') ∧ Own w' w.heap.size 5 1 A' n c' (u8s xs) ∧ Below w.heap.size w w' := by
  have := clone_any A n c xs w hx hr hA hl
  subst hx
  exact this
end Go.Proofs.Ytchneedpgpocnaa
