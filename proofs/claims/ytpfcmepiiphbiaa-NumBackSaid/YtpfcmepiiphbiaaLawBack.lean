/- NumBack: the walk. -/
import Derived.Test.YtpfcmepiiphbiaaLawFits
namespace Go.Proofs.Ytpfcmepiiphbiaa
open Go.RowKit
set_option linter.unusedVariables false
set_option linter.unusedSimpArgs false
theorem putB_flip (v : Int) (m : Nat) (big : Bool) : putB v m (!big) = (putB v m big).reverse := by cases big <;> simp [putB]
theorem Rd.drop {w : World} {B b o : Nat} {vs : List Value} (h : Rd w B (some ⟨b, o, none⟩) vs) (k : Nat) : Rd w B (some ⟨b, o + k, none⟩) (vs.drop k) := fun hne => by
  obtain ⟨b', o', e, hb, hc⟩ := h (fun hv => hne (by rw [hv]; simp))
  simp only [Option.some.injEq, Addr.mk.injEq, and_true] at e
  obtain ⟨rfl, rfl⟩ := e
  refine ⟨b, o + k, rfl, hb, fun i u hu => ?_⟩
  rw [Nat.add_assoc]
  exact hc (k + i) u (by rw [List.getElem?_drop] at hu; exact hu)
/-- A slice that owns bytes, at an address. -/
theorem Own.at_ {w : World} {base : Nat} {e : TypeId} {A : Option Addr} {n c : Nat} {xs : List Value} (h : Own w base e 1 A n c xs) (hn : 0 < n) : ∃ g o, A = some ⟨g, o, none⟩ := by
  cases A with
  | none => have h1 := h.2.2.2.1 rfl; have h2 := h.2.1; omega
  | some a => obtain ⟨g, off, cur, rfl, -⟩ := h.2.2.2.2 a rfl; exact ⟨g, off, rfl⟩
set_option maxHeartbeats 4000000 in
theorem back_1 (A1 : Option Addr) (n1 c1 : Nat) (xs : List Int) (A2 : Option Addr) (n2 c2 : Nat) (zs : List Int) (v u : Int) (big : Bool) (w : World)
    (h0 : 0 ≤ v) (h1 : v < 18446744073709551616) (h : u % 4 = 0) (hu : 0 ≤ u) (hu' : u < 256)
    (hx1 : xs.length = n1) (hb1 : Rd w w.heap.size A1 (u8s xs)) (hn1 : n1 ≤ c1) (hc1 : c1 ≤ maxLen) (hA1 : A1 = none → n1 = 0 ∧ c1 = 0) (hu1 : ∀ x ∈ xs, 0 ≤ x ∧ x < 256)
    (hx2 : zs.length = n2) (hb2 : Rd w w.heap.size A2 (u8s zs)) (hn2 : n2 ≤ c2) (hc2 : c2 ≤ maxLen) (hA2 : A2 = none → n2 = 0 ∧ c2 = 0) (hu2 : ∀ x ∈ zs, 0 ≤ x ∧ x < 256) :
    Calls Try.prog 6 #[.slice A1 n1 c1, .slice A2 n2 c2, .int .u64 v, .int .u8 u, .bool big] w fun e w' => e = .returned (.bool true) ∧ Below w.heap.size w w' := by
  have FA := Lib.hid (fun W => few_any A1 n1 c1 W hn1 (by omega) hA1)
  have FB := Lib.hid (fun W => few_any A2 n2 c2 W hn2 (by omega) hA2)
  have hya : (xs.take 20).length = min n1 20 := by simp [hx1, Nat.min_comm]
  have hyb : (zs.take 20).length = min n2 20 := by simp [hx2, Nat.min_comm]
  have hra : Rd w w.heap.size A1 (u8s (xs.take 20)) := by
    have := hb1.take 20
    rwa [← List.map_take] at this
  have hrb : Rd w w.heap.size A2 (u8s (zs.take 20)) := by
    have := hb2.take 20
    rwa [← List.map_take] at this
  have hua : ∀ x ∈ xs.take 20, 0 ≤ x ∧ x < 256 := fun x hx => hu1 x (List.mem_of_mem_take hx)
  have hub : ∀ x ∈ zs.take 20, 0 ≤ x ∧ x < 256 := fun x hx => hu2 x (List.mem_of_mem_take hx)
  have hk1 : min n1 20 ≤ 20 := by omega
  have hk2 : min n2 20 ≤ 20 := by omega
  clear hx1 hx2 hb1 hb2 hu1 hu2 hA1 hA2 hn1 hn2 hc1 hc2
  generalize xs.take 20 = ys at *
  generalize zs.take 20 = ts at *
  generalize min n1 20 = k1 at *
  generalize min n2 20 = k2 at *
  have HYA := Lib.hid hya
  have HYB := Lib.hid hyb
  obtain ⟨m, mi, hm, hmi⟩ : ∃ (m : Nat) (mi : Int), m = 1 ∧ mi = 1 := ⟨_, _, rfl, rfl⟩
  all_goals
    have hw : isW m = true := by rw [hm]; rfl
    have hm8 : m ≤ 8 := by omega
    have hm0 : 0 < m := by omega
    obtain ⟨L, hL⟩ : ∃ L, k1 + m = L := ⟨_, rfl⟩
    -- the first Put
    have P1 : Hid (∀ W, Rd W W.heap.size A1 (u8s ys) → Calls Try.prog 17 #[.slice A1 k1 c1, .int .u64 v, .int .i64 m, .bool big] W fun e w' => ∃ g o c, e = .returned (.tuple #[.slice (some ⟨g, o, none⟩) L c, .int .i64 0]) ∧ L ≤ c ∧ c ≤ maxLen ∧ Own w' W.heap.size 5 1 (some ⟨g, o, none⟩) L c (u8s (ys ++ putB v m big)) ∧ Below W.heap.size W w') := fun W hr => by
      refine (put_any A1 k1 c1 ys v m big W hw hya hr (by omega) h0 h1).mono ?_
      rintro e w' ⟨A, c, rfl, ho, hb⟩
      have el : (ys ++ putB v m big).length = L := by rw [List.length_append, hya, putB_len, hL]
      rw [el] at ho ⊢
      obtain ⟨g, o, rfl⟩ := ho.at_ (by omega)
      exact ⟨g, o, c, rfl, ho.2.1, ho.2.2.1, ho, hb⟩
    have P2 : Hid (∀ W, Calls Try.prog 17 #[.slice none 0 0, .int .u64 v, .int .i64 m, .bool (!big)] W fun e w' => ∃ g o c, e = .returned (.tuple #[.slice (some ⟨g, o, none⟩) m c, .int .i64 0]) ∧ m ≤ c ∧ Own w' W.heap.size 5 1 (some ⟨g, o, none⟩) m c (u8s (putB v m big).reverse) ∧ Below W.heap.size W w') := fun W => by
      refine (put_any none 0 0 [] v m (!big) W hw rfl Rd.nil (by omega) h0 h1).mono ?_
      rintro e w' ⟨A, c, rfl, ho, hb⟩
      rw [List.nil_append, putB_flip] at ho ⊢
      have el : (putB v m big).reverse.length = m := by rw [List.length_reverse, putB_len]
      rw [el] at ho ⊢
      obtain ⟨g, o, rfl⟩ := ho.at_ hm0
      exact ⟨g, o, c, rfl, ho.2.1, ho, hb⟩
    have T1 : Hid (∀ W A c nn, nn = m + k2 → Own W w.heap.size 5 1 A nn c (u8s (putB v m big ++ ts)) → Calls Try.prog 24 #[.slice A nn c, .int .i64 m, .bool big] W fun e w' => ∃ A c, e = .returned (.tuple #[.int .u64 (v % (256 : Int) ^ m), .slice A k2 c, .int .i64 0]) ∧ (∀ w2, Below w'.heap.size w' w2 → (convert 25 9 (.slice A k2 c)).run Try.prog w2 = .ok (.string (bstr ts)) w2) ∧ Below W.heap.size W w') := fun W A c nn hnn ho => by
      subst hnn
      refine (take_any A (m + k2) c (putB v m big ++ ts) m big W hw (by omega) (by rw [List.length_append, putB_len, hyb]) ho.rd ho.2.1 (by omega) ho.2.2.1 (fun x hx => by
        rcases List.mem_append.1 hx with h | h
        · exact putB_bd _ _ _ x h
        · exact hub x h)).mono ?_
      rintro e w' ⟨A', c', rfl, ho', hb⟩
      rw [List.take_left' (putB_len _ _ _), List.drop_left' (putB_len _ _ _), take_put] at *
      rw [hyb] at ho' ⊢
      exact ⟨A', c', rfl, ho'.conv Try.underlying25 Try.underlying5 Try.underlying9 hyb.symm, hb⟩
    have M := Lib.hid (fun W => mask_any m W hw)
    have em := mask_and v m h0 h1 hm8
    have hwr : IntKind.i64.wrap ((k1 : Int) + mi) = (k1 : Int) + mi := by rw [IntKind.wrap_i64]; omega
    have hlb : ((L : Int) != (k1 : Int) + mi) = false := by rw [bne_eq_false_iff_eq]; omega
    have hL1 : k1 + m ≤ L := by omega
    have hL2 : L ≤ 28 := by omega
    have HL := Lib.hid hL
    have HPL : Hid ((putB v m big).length = m) := putB_len _ _ _
    generalize putB v m big = p at *
    generalize maskV m = mk at *
    generalize v % (256 : Int) ^ m = x at *
    clear hya hyb hua hub hw hm8 hL
    subst hm
    subst hmi
    go_enter Try.func6, Try.ntmps6
    go_wp2_with fail
    refine (shown_any _).mono ?_
    rintro e w1 ⟨rfl, hb1⟩
    have hra1 := (hra.below hb1).more hb1.size
    go_wp2_with fail
    refine (FA.out _).mono ?_
    rintro e w' ⟨rfl, rfl⟩
    go_wp2_with fail
    refine (P1.out _ hra1).mono ?_
    rintro e w2 ⟨g1, o1, d1, rfl, hd1, hd1', ho1, hb2⟩
    go_wp2_with fail
    refine (P2.out _).mono ?_
    rintro e w3 ⟨g2, o2, d2, rfl, hd2, ho2, hb3⟩
    have hra3 := (hra1.below (bel2 hb2 hb3)).more (bel2 hb2 hb3).size
    have hw3 := bel2 (bel2 hb1 hb2) hb3
    have ho1' := ho1.below hb3
    have rq1 : Rd w3 w3.heap.size (some ⟨g1, o1, none⟩) (u8s ys) := by
      have := ho1'.rd.take k1
      rwa [← List.map_take, List.take_left' HYA.out] at this
    have cv1 := rq1.conv Try.underlying25 Try.underlying5 Try.underlying9 (c := d1) (Nat.le_refl _) HYA.out.symm
    have cv2 := hra3.conv Try.underlying25 Try.underlying5 Try.underlying9 (c := c1) (Nat.le_refl _) HYA.out.symm
    have hd3 : k1 ≤ d1 := by omega
    go_wp2_with fail
    have FQ : ∀ W, Calls Try.prog 22 #[.slice A1 n1 c1] W fun e w' => e = .returned (.slice A1 k1 c1) ∧ w' = W := fun W => (FA.out W).mono fun e w' h => ⟨h.1, h.2.symm⟩
    have FQ' := Lib.hid FQ
    clear FQ
    have FR : ∀ W, Calls Try.prog 22 #[.slice A2 n2 c2] W fun e w' => e = .returned (.slice A2 k2 c2) ∧ w' = W := fun W => (FB.out W).mono fun e w' h => ⟨h.1, h.2.symm⟩
    have FR' := Lib.hid FR
    clear FR
    have MQ : ∀ W, Calls Try.prog 16 #[.int .i64 1] W fun e w' => e = .returned (.int .u64 mk) ∧ w' = W := fun W => (M.out W).mono fun e w' h => ⟨h.1, h.2.symm⟩
    have MQ' := Lib.hid MQ
    clear MQ
    have cq1 := fun nq => cv1 _ (bel_drewN (Below.refl w3.heap.size w3) nq)
    have cq2 := fun nq => cv2 _ (bel_drewN (Below.refl w3.heap.size w3) nq)
    clear cv1 cv2
    go_quiet ((go_at_call 22; exact Calls.quiet_of_same (FQ'.out _)))
    clear cq1 cq2 hwr hlb
    have HC1 := Lib.hid (fun k (x : Int) (h : p.reverse[k]? = some x) => ho2.cells k (.int .u8 x) (by rw [List.getElem?_map, h]; rfl))
    have HC2 := Lib.hid (fun k (x : Int) (h : (ys ++ p)[k]? = some x) => ho1'.cells k (.int .u8 x) (by rw [List.getElem?_map, h]; rfl))
    go_wp2_with fail
    go_loopw [78] (fun i wr => ∃ k nn : Nat, k ≤ 1 ∧ i = .int .i64 k ∧ wr = w3.drewN nn) (fun i _ => 1 - (intOf i).toNat)
    case atStart => exact ⟨0, _, Nat.zero_le _, rfl, rfl⟩
    case round =>
      obtain ⟨k, nn, hk, rfl, rfl⟩ := hrel
      by_cases hlt : k < 1
      · have hlt' : (k : Int) < 1 := by omega
        obtain ⟨y, hy⟩ : ∃ y, p.reverse[k]? = some y := ⟨_, List.getElem?_eq_getElem (by rw [List.length_reverse, HPL.out]; exact hlt)⟩
        have d1 := HC1.out k y hy
        have d2 := HC2.out (L - 1 - k) y (by
          rw [List.getElem?_append_right (by rw [HYA.out]; have := HL.out; omega), ← hy, List.getElem?_reverse (by rw [HPL.out]; exact hlt), HYA.out, HPL.out]
          congr 1
          have := HL.out
          omega)
        have w1' : IntKind.i64.wrap ((L : Int) - 1) = (L : Int) - 1 := by rw [IntKind.wrap_i64]; omega
        have w2' : IntKind.i64.wrap ((L : Int) - 1 - k) = (L : Int) - 1 - k := by rw [IntKind.wrap_i64]; omega
        have w3' : ((L : Int) - 1 - k).toNat = L - 1 - k := by omega
        have w4' : 0 ≤ (L : Int) - 1 - k := by omega
        have w5' : (L : Int) - 1 - k < L := by omega
        clear hy
        go_wp2_with fail
        go_quiet (fail)
        go_wp2_with fail
        go_roundw
        case rel => exact ⟨k + 1, _, by omega, by go_num, rfl⟩
        case measure => simp [intOf]; omega
      · obtain rfl : k = 1 := by omega
        have hbW : Below w3.heap.size w3 (w3.drewN nn) := bel_drewN (Below.refl _ _) nn
        generalize w3.drewN nn = W at *
        have ho1W := ho1'.below hbW
        have hwW := bel2 hw3 hbW
        have hz := hwW.size
        have hrbW : Rd W W.heap.size A2 (u8s ts) := (hrb.below hwW).more hz
        have hbel := (Below.refl W.heap.size W).alloc (Nat.le_refl _) (.cells #[] 5)
        have ho := Own.made (e := 5) (size := 1) W (Nat.le_refl _) #[] 0 0 (by decide) (by decide) rfl
        have hcut : Rd W W.heap.size (some ⟨g1, o1 + k1, none⟩) (u8s p) := by
          have := ho1W.rd.drop k1
          rwa [← List.map_drop, List.drop_left' HYA.out] at this
        have hr' := hcut.al (.cells #[] 5)
        have hdk : ¬ d1 = k1 := by omega
        have hkL : k1 ≤ L := by omega
        have hLk := Lib.hid (show L - k1 = 1 by have := HL.out; omega)
        clear HC1 HC2 ho1W hcut
        go_wp2_with fail
        refine (FA.out _).mono ?_
        rintro e w' ⟨rfl, rfl⟩
        go_wp2_with (at_builtin; refine wpList_app _ rfl (.tmp 96) (.tmp 101) 25 rfl W.heap.size 5 (.int .u8 0) 1 1 Try.underlying25 info5 rfl (by decide) _ 0 0 [] rfl ho _ (some ⟨g1, o1 + k1, none⟩) (L - k1) (d1 - k1) _ rfl (by rw [List.length_map, HPL.out, hLk.out]) hr' (u8s_one _) (by unfold maxLen; omega) (by omega) (by simp) ?_; intro A4 c4 w4 hown4 hg4 hbk4)
        simp only [Nat.zero_add, List.nil_append] at hown4
        have hb4 := bel_app hbel ho (Nat.le_refl _) hg4
        have hrb4 : Rd w4 w4.heap.size A2 (u8s ts) := (hrbW.below hb4).more hb4.size
        clear ho hg4 hbk4 hr' hbel
        refine (FB.out _).mono ?_
        rintro e w' ⟨rfl, rfl⟩
        go_wp2_with (at_builtin; refine wpList_app _ rfl (.tmp 102) (.tmp 104) 25 rfl W.heap.size 5 (.int .u8 0) 1 1 Try.underlying25 info5 rfl (by decide) A4 (L - k1) c4 _ rfl hown4 _ A2 k2 c2 _ rfl (by rw [List.length_map, HYB.out, Nat.mul_one]) hrb4 (u8s_one _) (by unfold maxLen; omega) (by omega) hb4.size ?_; intro A5 c5 w5 hown5 hg5 hbk5)
        have hb5 := bel_app hb4 hown4 (Nat.le_refl _) hg5
        have ho5 : Own w5 w.heap.size 5 1 A5 (L - k1 + k2) c5 (u8s (p ++ ts)) := by
          rw [show u8s (p ++ ts) = u8s p ++ u8s ts from List.map_append]; exact hown5.more hz
        have hrb5 : Rd w5 w5.heap.size A2 (u8s ts) := (hrbW.below hb5).more hb5.size
        clear hown5 hown4 hg5 hbk5 hrb4
        refine (T1.out _ _ _ _ (by rw [hLk.out]) ho5).mono ?_
        rintro e w6 ⟨A6, c6, rfl, cv6, hb6⟩
        have hrb6 : Rd w6 w6.heap.size A2 (u8s ts) := (hrb5.below hb6).more hb6.size
        have cq6 := fun nq => cv6 _ (bel_drewN (Below.refl w6.heap.size w6) nq)
        have cv7 := hrb6.conv Try.underlying25 Try.underlying5 Try.underlying9 (c := c2) (Nat.le_refl _) HYB.out.symm
        have cq7 := fun nq => cv7 _ (bel_drewN (Below.refl w6.heap.size w6) nq)
        clear cv6 cv7
        go_wp2_with fail
        go_quiet ((first | (go_at_call 22; exact Calls.quiet_of_same (FR'.out _)) | (go_at_call 16; exact Calls.quiet_of_same (MQ'.out _))))
        go_wp2_with fail
        go_ret
        exact ⟨rfl, bel_drewN (bel2 (bel2 hwW hb5) hb6) _⟩
set_option maxHeartbeats 4000000 in
theorem back_2 (A1 : Option Addr) (n1 c1 : Nat) (xs : List Int) (A2 : Option Addr) (n2 c2 : Nat) (zs : List Int) (v u : Int) (big : Bool) (w : World)
    (h0 : 0 ≤ v) (h1 : v < 18446744073709551616) (h : u % 4 = 1) (hu : 0 ≤ u) (hu' : u < 256)
    (hx1 : xs.length = n1) (hb1 : Rd w w.heap.size A1 (u8s xs)) (hn1 : n1 ≤ c1) (hc1 : c1 ≤ maxLen) (hA1 : A1 = none → n1 = 0 ∧ c1 = 0) (hu1 : ∀ x ∈ xs, 0 ≤ x ∧ x < 256)
    (hx2 : zs.length = n2) (hb2 : Rd w w.heap.size A2 (u8s zs)) (hn2 : n2 ≤ c2) (hc2 : c2 ≤ maxLen) (hA2 : A2 = none → n2 = 0 ∧ c2 = 0) (hu2 : ∀ x ∈ zs, 0 ≤ x ∧ x < 256) :
    Calls Try.prog 6 #[.slice A1 n1 c1, .slice A2 n2 c2, .int .u64 v, .int .u8 u, .bool big] w fun e w' => e = .returned (.bool true) ∧ Below w.heap.size w w' := by
  have FA := Lib.hid (fun W => few_any A1 n1 c1 W hn1 (by omega) hA1)
  have FB := Lib.hid (fun W => few_any A2 n2 c2 W hn2 (by omega) hA2)
  have hya : (xs.take 20).length = min n1 20 := by simp [hx1, Nat.min_comm]
  have hyb : (zs.take 20).length = min n2 20 := by simp [hx2, Nat.min_comm]
  have hra : Rd w w.heap.size A1 (u8s (xs.take 20)) := by
    have := hb1.take 20
    rwa [← List.map_take] at this
  have hrb : Rd w w.heap.size A2 (u8s (zs.take 20)) := by
    have := hb2.take 20
    rwa [← List.map_take] at this
  have hua : ∀ x ∈ xs.take 20, 0 ≤ x ∧ x < 256 := fun x hx => hu1 x (List.mem_of_mem_take hx)
  have hub : ∀ x ∈ zs.take 20, 0 ≤ x ∧ x < 256 := fun x hx => hu2 x (List.mem_of_mem_take hx)
  have hk1 : min n1 20 ≤ 20 := by omega
  have hk2 : min n2 20 ≤ 20 := by omega
  clear hx1 hx2 hb1 hb2 hu1 hu2 hA1 hA2 hn1 hn2 hc1 hc2
  generalize xs.take 20 = ys at *
  generalize zs.take 20 = ts at *
  generalize min n1 20 = k1 at *
  generalize min n2 20 = k2 at *
  have HYA := Lib.hid hya
  have HYB := Lib.hid hyb
  obtain ⟨m, mi, hm, hmi⟩ : ∃ (m : Nat) (mi : Int), m = 2 ∧ mi = 2 := ⟨_, _, rfl, rfl⟩
  all_goals
    have hw : isW m = true := by rw [hm]; rfl
    have hm8 : m ≤ 8 := by omega
    have hm0 : 0 < m := by omega
    obtain ⟨L, hL⟩ : ∃ L, k1 + m = L := ⟨_, rfl⟩
    -- the first Put
    have P1 : Hid (∀ W, Rd W W.heap.size A1 (u8s ys) → Calls Try.prog 17 #[.slice A1 k1 c1, .int .u64 v, .int .i64 m, .bool big] W fun e w' => ∃ g o c, e = .returned (.tuple #[.slice (some ⟨g, o, none⟩) L c, .int .i64 0]) ∧ L ≤ c ∧ c ≤ maxLen ∧ Own w' W.heap.size 5 1 (some ⟨g, o, none⟩) L c (u8s (ys ++ putB v m big)) ∧ Below W.heap.size W w') := fun W hr => by
      refine (put_any A1 k1 c1 ys v m big W hw hya hr (by omega) h0 h1).mono ?_
      rintro e w' ⟨A, c, rfl, ho, hb⟩
      have el : (ys ++ putB v m big).length = L := by rw [List.length_append, hya, putB_len, hL]
      rw [el] at ho ⊢
      obtain ⟨g, o, rfl⟩ := ho.at_ (by omega)
      exact ⟨g, o, c, rfl, ho.2.1, ho.2.2.1, ho, hb⟩
    have P2 : Hid (∀ W, Calls Try.prog 17 #[.slice none 0 0, .int .u64 v, .int .i64 m, .bool (!big)] W fun e w' => ∃ g o c, e = .returned (.tuple #[.slice (some ⟨g, o, none⟩) m c, .int .i64 0]) ∧ m ≤ c ∧ Own w' W.heap.size 5 1 (some ⟨g, o, none⟩) m c (u8s (putB v m big).reverse) ∧ Below W.heap.size W w') := fun W => by
      refine (put_any none 0 0 [] v m (!big) W hw rfl Rd.nil (by omega) h0 h1).mono ?_
      rintro e w' ⟨A, c, rfl, ho, hb⟩
      rw [List.nil_append, putB_flip] at ho ⊢
      have el : (putB v m big).reverse.length = m := by rw [List.length_reverse, putB_len]
      rw [el] at ho ⊢
      obtain ⟨g, o, rfl⟩ := ho.at_ hm0
      exact ⟨g, o, c, rfl, ho.2.1, ho, hb⟩
    have T1 : Hid (∀ W A c nn, nn = m + k2 → Own W w.heap.size 5 1 A nn c (u8s (putB v m big ++ ts)) → Calls Try.prog 24 #[.slice A nn c, .int .i64 m, .bool big] W fun e w' => ∃ A c, e = .returned (.tuple #[.int .u64 (v % (256 : Int) ^ m), .slice A k2 c, .int .i64 0]) ∧ (∀ w2, Below w'.heap.size w' w2 → (convert 25 9 (.slice A k2 c)).run Try.prog w2 = .ok (.string (bstr ts)) w2) ∧ Below W.heap.size W w') := fun W A c nn hnn ho => by
      subst hnn
      refine (take_any A (m + k2) c (putB v m big ++ ts) m big W hw (by omega) (by rw [List.length_append, putB_len, hyb]) ho.rd ho.2.1 (by omega) ho.2.2.1 (fun x hx => by
        rcases List.mem_append.1 hx with h | h
        · exact putB_bd _ _ _ x h
        · exact hub x h)).mono ?_
      rintro e w' ⟨A', c', rfl, ho', hb⟩
      rw [List.take_left' (putB_len _ _ _), List.drop_left' (putB_len _ _ _), take_put] at *
      rw [hyb] at ho' ⊢
      exact ⟨A', c', rfl, ho'.conv Try.underlying25 Try.underlying5 Try.underlying9 hyb.symm, hb⟩
    have M := Lib.hid (fun W => mask_any m W hw)
    have em := mask_and v m h0 h1 hm8
    have hwr : IntKind.i64.wrap ((k1 : Int) + mi) = (k1 : Int) + mi := by rw [IntKind.wrap_i64]; omega
    have hlb : ((L : Int) != (k1 : Int) + mi) = false := by rw [bne_eq_false_iff_eq]; omega
    have hL1 : k1 + m ≤ L := by omega
    have hL2 : L ≤ 28 := by omega
    have HL := Lib.hid hL
    have HPL : Hid ((putB v m big).length = m) := putB_len _ _ _
    generalize putB v m big = p at *
    generalize maskV m = mk at *
    generalize v % (256 : Int) ^ m = x at *
    clear hya hyb hua hub hw hm8 hL
    subst hm
    subst hmi
    go_enter Try.func6, Try.ntmps6
    go_wp2_with fail
    refine (shown_any _).mono ?_
    rintro e w1 ⟨rfl, hb1⟩
    have hra1 := (hra.below hb1).more hb1.size
    go_wp2_with fail
    refine (FA.out _).mono ?_
    rintro e w' ⟨rfl, rfl⟩
    go_wp2_with fail
    refine (P1.out _ hra1).mono ?_
    rintro e w2 ⟨g1, o1, d1, rfl, hd1, hd1', ho1, hb2⟩
    go_wp2_with fail
    refine (P2.out _).mono ?_
    rintro e w3 ⟨g2, o2, d2, rfl, hd2, ho2, hb3⟩
    have hra3 := (hra1.below (bel2 hb2 hb3)).more (bel2 hb2 hb3).size
    have hw3 := bel2 (bel2 hb1 hb2) hb3
    have ho1' := ho1.below hb3
    have rq1 : Rd w3 w3.heap.size (some ⟨g1, o1, none⟩) (u8s ys) := by
      have := ho1'.rd.take k1
      rwa [← List.map_take, List.take_left' HYA.out] at this
    have cv1 := rq1.conv Try.underlying25 Try.underlying5 Try.underlying9 (c := d1) (Nat.le_refl _) HYA.out.symm
    have cv2 := hra3.conv Try.underlying25 Try.underlying5 Try.underlying9 (c := c1) (Nat.le_refl _) HYA.out.symm
    have hd3 : k1 ≤ d1 := by omega
    go_wp2_with fail
    have FQ : ∀ W, Calls Try.prog 22 #[.slice A1 n1 c1] W fun e w' => e = .returned (.slice A1 k1 c1) ∧ w' = W := fun W => (FA.out W).mono fun e w' h => ⟨h.1, h.2.symm⟩
    have FQ' := Lib.hid FQ
    clear FQ
    have FR : ∀ W, Calls Try.prog 22 #[.slice A2 n2 c2] W fun e w' => e = .returned (.slice A2 k2 c2) ∧ w' = W := fun W => (FB.out W).mono fun e w' h => ⟨h.1, h.2.symm⟩
    have FR' := Lib.hid FR
    clear FR
    have MQ : ∀ W, Calls Try.prog 16 #[.int .i64 2] W fun e w' => e = .returned (.int .u64 mk) ∧ w' = W := fun W => (M.out W).mono fun e w' h => ⟨h.1, h.2.symm⟩
    have MQ' := Lib.hid MQ
    clear MQ
    have cq1 := fun nq => cv1 _ (bel_drewN (Below.refl w3.heap.size w3) nq)
    have cq2 := fun nq => cv2 _ (bel_drewN (Below.refl w3.heap.size w3) nq)
    clear cv1 cv2
    go_quiet ((go_at_call 22; exact Calls.quiet_of_same (FQ'.out _)))
    clear cq1 cq2 hwr hlb
    have HC1 := Lib.hid (fun k (x : Int) (h : p.reverse[k]? = some x) => ho2.cells k (.int .u8 x) (by rw [List.getElem?_map, h]; rfl))
    have HC2 := Lib.hid (fun k (x : Int) (h : (ys ++ p)[k]? = some x) => ho1'.cells k (.int .u8 x) (by rw [List.getElem?_map, h]; rfl))
    go_wp2_with fail
    go_loopw [78] (fun i wr => ∃ k nn : Nat, k ≤ 2 ∧ i = .int .i64 k ∧ wr = w3.drewN nn) (fun i _ => 2 - (intOf i).toNat)
    case atStart => exact ⟨0, _, Nat.zero_le _, rfl, rfl⟩
    case round =>
      obtain ⟨k, nn, hk, rfl, rfl⟩ := hrel
      by_cases hlt : k < 2
      · have hlt' : (k : Int) < 2 := by omega
        obtain ⟨y, hy⟩ : ∃ y, p.reverse[k]? = some y := ⟨_, List.getElem?_eq_getElem (by rw [List.length_reverse, HPL.out]; exact hlt)⟩
        have d1 := HC1.out k y hy
        have d2 := HC2.out (L - 1 - k) y (by
          rw [List.getElem?_append_right (by rw [HYA.out]; have := HL.out; omega), ← hy, List.getElem?_reverse (by rw [HPL.out]; exact hlt), HYA.out, HPL.out]
          congr 1
          have := HL.out
          omega)
        have w1' : IntKind.i64.wrap ((L : Int) - 1) = (L : Int) - 1 := by rw [IntKind.wrap_i64]; omega
        have w2' : IntKind.i64.wrap ((L : Int) - 1 - k) = (L : Int) - 1 - k := by rw [IntKind.wrap_i64]; omega
        have w3' : ((L : Int) - 1 - k).toNat = L - 1 - k := by omega
        have w4' : 0 ≤ (L : Int) - 1 - k := by omega
        have w5' : (L : Int) - 1 - k < L := by omega
        clear hy
        go_wp2_with fail
        go_quiet (fail)
        go_wp2_with fail
        go_roundw
        case rel => exact ⟨k + 1, _, by omega, by go_num, rfl⟩
        case measure => simp [intOf]; omega
      · obtain rfl : k = 2 := by omega
        have hbW : Below w3.heap.size w3 (w3.drewN nn) := bel_drewN (Below.refl _ _) nn
        generalize w3.drewN nn = W at *
        have ho1W := ho1'.below hbW
        have hwW := bel2 hw3 hbW
        have hz := hwW.size
        have hrbW : Rd W W.heap.size A2 (u8s ts) := (hrb.below hwW).more hz
        have hbel := (Below.refl W.heap.size W).alloc (Nat.le_refl _) (.cells #[] 5)
        have ho := Own.made (e := 5) (size := 1) W (Nat.le_refl _) #[] 0 0 (by decide) (by decide) rfl
        have hcut : Rd W W.heap.size (some ⟨g1, o1 + k1, none⟩) (u8s p) := by
          have := ho1W.rd.drop k1
          rwa [← List.map_drop, List.drop_left' HYA.out] at this
        have hr' := hcut.al (.cells #[] 5)
        have hdk : ¬ d1 = k1 := by omega
        have hkL : k1 ≤ L := by omega
        have hLk := Lib.hid (show L - k1 = 2 by have := HL.out; omega)
        clear HC1 HC2 ho1W hcut
        go_wp2_with fail
        refine (FA.out _).mono ?_
        rintro e w' ⟨rfl, rfl⟩
        go_wp2_with (at_builtin; refine wpList_app _ rfl (.tmp 96) (.tmp 101) 25 rfl W.heap.size 5 (.int .u8 0) 1 1 Try.underlying25 info5 rfl (by decide) _ 0 0 [] rfl ho _ (some ⟨g1, o1 + k1, none⟩) (L - k1) (d1 - k1) _ rfl (by rw [List.length_map, HPL.out, hLk.out]) hr' (u8s_one _) (by unfold maxLen; omega) (by omega) (by simp) ?_; intro A4 c4 w4 hown4 hg4 hbk4)
        simp only [Nat.zero_add, List.nil_append] at hown4
        have hb4 := bel_app hbel ho (Nat.le_refl _) hg4
        have hrb4 : Rd w4 w4.heap.size A2 (u8s ts) := (hrbW.below hb4).more hb4.size
        clear ho hg4 hbk4 hr' hbel
        refine (FB.out _).mono ?_
        rintro e w' ⟨rfl, rfl⟩
        go_wp2_with (at_builtin; refine wpList_app _ rfl (.tmp 102) (.tmp 104) 25 rfl W.heap.size 5 (.int .u8 0) 1 1 Try.underlying25 info5 rfl (by decide) A4 (L - k1) c4 _ rfl hown4 _ A2 k2 c2 _ rfl (by rw [List.length_map, HYB.out, Nat.mul_one]) hrb4 (u8s_one _) (by unfold maxLen; omega) (by omega) hb4.size ?_; intro A5 c5 w5 hown5 hg5 hbk5)
        have hb5 := bel_app hb4 hown4 (Nat.le_refl _) hg5
        have ho5 : Own w5 w.heap.size 5 1 A5 (L - k1 + k2) c5 (u8s (p ++ ts)) := by
          rw [show u8s (p ++ ts) = u8s p ++ u8s ts from List.map_append]; exact hown5.more hz
        have hrb5 : Rd w5 w5.heap.size A2 (u8s ts) := (hrbW.below hb5).more hb5.size
        clear hown5 hown4 hg5 hbk5 hrb4
        refine (T1.out _ _ _ _ (by rw [hLk.out]) ho5).mono ?_
        rintro e w6 ⟨A6, c6, rfl, cv6, hb6⟩
        have hrb6 : Rd w6 w6.heap.size A2 (u8s ts) := (hrb5.below hb6).more hb6.size
        have cq6 := fun nq => cv6 _ (bel_drewN (Below.refl w6.heap.size w6) nq)
        have cv7 := hrb6.conv Try.underlying25 Try.underlying5 Try.underlying9 (c := c2) (Nat.le_refl _) HYB.out.symm
        have cq7 := fun nq => cv7 _ (bel_drewN (Below.refl w6.heap.size w6) nq)
        clear cv6 cv7
        go_wp2_with fail
        go_quiet ((first | (go_at_call 22; exact Calls.quiet_of_same (FR'.out _)) | (go_at_call 16; exact Calls.quiet_of_same (MQ'.out _))))
        go_wp2_with fail
        go_ret
        exact ⟨rfl, bel_drewN (bel2 (bel2 hwW hb5) hb6) _⟩
set_option maxHeartbeats 4000000 in
theorem back_4 (A1 : Option Addr) (n1 c1 : Nat) (xs : List Int) (A2 : Option Addr) (n2 c2 : Nat) (zs : List Int) (v u : Int) (big : Bool) (w : World)
    (h0 : 0 ≤ v) (h1 : v < 18446744073709551616) (h : u % 4 = 2) (hu : 0 ≤ u) (hu' : u < 256)
    (hx1 : xs.length = n1) (hb1 : Rd w w.heap.size A1 (u8s xs)) (hn1 : n1 ≤ c1) (hc1 : c1 ≤ maxLen) (hA1 : A1 = none → n1 = 0 ∧ c1 = 0) (hu1 : ∀ x ∈ xs, 0 ≤ x ∧ x < 256)
    (hx2 : zs.length = n2) (hb2 : Rd w w.heap.size A2 (u8s zs)) (hn2 : n2 ≤ c2) (hc2 : c2 ≤ maxLen) (hA2 : A2 = none → n2 = 0 ∧ c2 = 0) (hu2 : ∀ x ∈ zs, 0 ≤ x ∧ x < 256) :
    Calls Try.prog 6 #[.slice A1 n1 c1, .slice A2 n2 c2, .int .u64 v, .int .u8 u, .bool big] w fun e w' => e = .returned (.bool true) ∧ Below w.heap.size w w' := by
  have FA := Lib.hid (fun W => few_any A1 n1 c1 W hn1 (by omega) hA1)
  have FB := Lib.hid (fun W => few_any A2 n2 c2 W hn2 (by omega) hA2)
  have hya : (xs.take 20).length = min n1 20 := by simp [hx1, Nat.min_comm]
  have hyb : (zs.take 20).length = min n2 20 := by simp [hx2, Nat.min_comm]
  have hra : Rd w w.heap.size A1 (u8s (xs.take 20)) := by
    have := hb1.take 20
    rwa [← List.map_take] at this
  have hrb : Rd w w.heap.size A2 (u8s (zs.take 20)) := by
    have := hb2.take 20
    rwa [← List.map_take] at this
  have hua : ∀ x ∈ xs.take 20, 0 ≤ x ∧ x < 256 := fun x hx => hu1 x (List.mem_of_mem_take hx)
  have hub : ∀ x ∈ zs.take 20, 0 ≤ x ∧ x < 256 := fun x hx => hu2 x (List.mem_of_mem_take hx)
  have hk1 : min n1 20 ≤ 20 := by omega
  have hk2 : min n2 20 ≤ 20 := by omega
  clear hx1 hx2 hb1 hb2 hu1 hu2 hA1 hA2 hn1 hn2 hc1 hc2
  generalize xs.take 20 = ys at *
  generalize zs.take 20 = ts at *
  generalize min n1 20 = k1 at *
  generalize min n2 20 = k2 at *
  have HYA := Lib.hid hya
  have HYB := Lib.hid hyb
  obtain ⟨m, mi, hm, hmi⟩ : ∃ (m : Nat) (mi : Int), m = 4 ∧ mi = 4 := ⟨_, _, rfl, rfl⟩
  all_goals
    have hw : isW m = true := by rw [hm]; rfl
    have hm8 : m ≤ 8 := by omega
    have hm0 : 0 < m := by omega
    obtain ⟨L, hL⟩ : ∃ L, k1 + m = L := ⟨_, rfl⟩
    -- the first Put
    have P1 : Hid (∀ W, Rd W W.heap.size A1 (u8s ys) → Calls Try.prog 17 #[.slice A1 k1 c1, .int .u64 v, .int .i64 m, .bool big] W fun e w' => ∃ g o c, e = .returned (.tuple #[.slice (some ⟨g, o, none⟩) L c, .int .i64 0]) ∧ L ≤ c ∧ c ≤ maxLen ∧ Own w' W.heap.size 5 1 (some ⟨g, o, none⟩) L c (u8s (ys ++ putB v m big)) ∧ Below W.heap.size W w') := fun W hr => by
      refine (put_any A1 k1 c1 ys v m big W hw hya hr (by omega) h0 h1).mono ?_
      rintro e w' ⟨A, c, rfl, ho, hb⟩
      have el : (ys ++ putB v m big).length = L := by rw [List.length_append, hya, putB_len, hL]
      rw [el] at ho ⊢
      obtain ⟨g, o, rfl⟩ := ho.at_ (by omega)
      exact ⟨g, o, c, rfl, ho.2.1, ho.2.2.1, ho, hb⟩
    have P2 : Hid (∀ W, Calls Try.prog 17 #[.slice none 0 0, .int .u64 v, .int .i64 m, .bool (!big)] W fun e w' => ∃ g o c, e = .returned (.tuple #[.slice (some ⟨g, o, none⟩) m c, .int .i64 0]) ∧ m ≤ c ∧ Own w' W.heap.size 5 1 (some ⟨g, o, none⟩) m c (u8s (putB v m big).reverse) ∧ Below W.heap.size W w') := fun W => by
      refine (put_any none 0 0 [] v m (!big) W hw rfl Rd.nil (by omega) h0 h1).mono ?_
      rintro e w' ⟨A, c, rfl, ho, hb⟩
      rw [List.nil_append, putB_flip] at ho ⊢
      have el : (putB v m big).reverse.length = m := by rw [List.length_reverse, putB_len]
      rw [el] at ho ⊢
      obtain ⟨g, o, rfl⟩ := ho.at_ hm0
      exact ⟨g, o, c, rfl, ho.2.1, ho, hb⟩
    have T1 : Hid (∀ W A c nn, nn = m + k2 → Own W w.heap.size 5 1 A nn c (u8s (putB v m big ++ ts)) → Calls Try.prog 24 #[.slice A nn c, .int .i64 m, .bool big] W fun e w' => ∃ A c, e = .returned (.tuple #[.int .u64 (v % (256 : Int) ^ m), .slice A k2 c, .int .i64 0]) ∧ (∀ w2, Below w'.heap.size w' w2 → (convert 25 9 (.slice A k2 c)).run Try.prog w2 = .ok (.string (bstr ts)) w2) ∧ Below W.heap.size W w') := fun W A c nn hnn ho => by
      subst hnn
      refine (take_any A (m + k2) c (putB v m big ++ ts) m big W hw (by omega) (by rw [List.length_append, putB_len, hyb]) ho.rd ho.2.1 (by omega) ho.2.2.1 (fun x hx => by
        rcases List.mem_append.1 hx with h | h
        · exact putB_bd _ _ _ x h
        · exact hub x h)).mono ?_
      rintro e w' ⟨A', c', rfl, ho', hb⟩
      rw [List.take_left' (putB_len _ _ _), List.drop_left' (putB_len _ _ _), take_put] at *
      rw [hyb] at ho' ⊢
      exact ⟨A', c', rfl, ho'.conv Try.underlying25 Try.underlying5 Try.underlying9 hyb.symm, hb⟩
    have M := Lib.hid (fun W => mask_any m W hw)
    have em := mask_and v m h0 h1 hm8
    have hwr : IntKind.i64.wrap ((k1 : Int) + mi) = (k1 : Int) + mi := by rw [IntKind.wrap_i64]; omega
    have hlb : ((L : Int) != (k1 : Int) + mi) = false := by rw [bne_eq_false_iff_eq]; omega
    have hL1 : k1 + m ≤ L := by omega
    have hL2 : L ≤ 28 := by omega
    have HL := Lib.hid hL
    have HPL : Hid ((putB v m big).length = m) := putB_len _ _ _
    generalize putB v m big = p at *
    generalize maskV m = mk at *
    generalize v % (256 : Int) ^ m = x at *
    clear hya hyb hua hub hw hm8 hL
    subst hm
    subst hmi
    go_enter Try.func6, Try.ntmps6
    go_wp2_with fail
    refine (shown_any _).mono ?_
    rintro e w1 ⟨rfl, hb1⟩
    have hra1 := (hra.below hb1).more hb1.size
    go_wp2_with fail
    refine (FA.out _).mono ?_
    rintro e w' ⟨rfl, rfl⟩
    go_wp2_with fail
    refine (P1.out _ hra1).mono ?_
    rintro e w2 ⟨g1, o1, d1, rfl, hd1, hd1', ho1, hb2⟩
    go_wp2_with fail
    refine (P2.out _).mono ?_
    rintro e w3 ⟨g2, o2, d2, rfl, hd2, ho2, hb3⟩
    have hra3 := (hra1.below (bel2 hb2 hb3)).more (bel2 hb2 hb3).size
    have hw3 := bel2 (bel2 hb1 hb2) hb3
    have ho1' := ho1.below hb3
    have rq1 : Rd w3 w3.heap.size (some ⟨g1, o1, none⟩) (u8s ys) := by
      have := ho1'.rd.take k1
      rwa [← List.map_take, List.take_left' HYA.out] at this
    have cv1 := rq1.conv Try.underlying25 Try.underlying5 Try.underlying9 (c := d1) (Nat.le_refl _) HYA.out.symm
    have cv2 := hra3.conv Try.underlying25 Try.underlying5 Try.underlying9 (c := c1) (Nat.le_refl _) HYA.out.symm
    have hd3 : k1 ≤ d1 := by omega
    go_wp2_with fail
    have FQ : ∀ W, Calls Try.prog 22 #[.slice A1 n1 c1] W fun e w' => e = .returned (.slice A1 k1 c1) ∧ w' = W := fun W => (FA.out W).mono fun e w' h => ⟨h.1, h.2.symm⟩
    have FQ' := Lib.hid FQ
    clear FQ
    have FR : ∀ W, Calls Try.prog 22 #[.slice A2 n2 c2] W fun e w' => e = .returned (.slice A2 k2 c2) ∧ w' = W := fun W => (FB.out W).mono fun e w' h => ⟨h.1, h.2.symm⟩
    have FR' := Lib.hid FR
    clear FR
    have MQ : ∀ W, Calls Try.prog 16 #[.int .i64 4] W fun e w' => e = .returned (.int .u64 mk) ∧ w' = W := fun W => (M.out W).mono fun e w' h => ⟨h.1, h.2.symm⟩
    have MQ' := Lib.hid MQ
    clear MQ
    have cq1 := fun nq => cv1 _ (bel_drewN (Below.refl w3.heap.size w3) nq)
    have cq2 := fun nq => cv2 _ (bel_drewN (Below.refl w3.heap.size w3) nq)
    clear cv1 cv2
    go_quiet ((go_at_call 22; exact Calls.quiet_of_same (FQ'.out _)))
    clear cq1 cq2 hwr hlb
    have HC1 := Lib.hid (fun k (x : Int) (h : p.reverse[k]? = some x) => ho2.cells k (.int .u8 x) (by rw [List.getElem?_map, h]; rfl))
    have HC2 := Lib.hid (fun k (x : Int) (h : (ys ++ p)[k]? = some x) => ho1'.cells k (.int .u8 x) (by rw [List.getElem?_map, h]; rfl))
    go_wp2_with fail
    go_loopw [78] (fun i wr => ∃ k nn : Nat, k ≤ 4 ∧ i = .int .i64 k ∧ wr = w3.drewN nn) (fun i _ => 4 - (intOf i).toNat)
    case atStart => exact ⟨0, _, Nat.zero_le _, rfl, rfl⟩
    case round =>
      obtain ⟨k, nn, hk, rfl, rfl⟩ := hrel
      by_cases hlt : k < 4
      · have hlt' : (k : Int) < 4 := by omega
        obtain ⟨y, hy⟩ : ∃ y, p.reverse[k]? = some y := ⟨_, List.getElem?_eq_getElem (by rw [List.length_reverse, HPL.out]; exact hlt)⟩
        have d1 := HC1.out k y hy
        have d2 := HC2.out (L - 1 - k) y (by
          rw [List.getElem?_append_right (by rw [HYA.out]; have := HL.out; omega), ← hy, List.getElem?_reverse (by rw [HPL.out]; exact hlt), HYA.out, HPL.out]
          congr 1
          have := HL.out
          omega)
        have w1' : IntKind.i64.wrap ((L : Int) - 1) = (L : Int) - 1 := by rw [IntKind.wrap_i64]; omega
        have w2' : IntKind.i64.wrap ((L : Int) - 1 - k) = (L : Int) - 1 - k := by rw [IntKind.wrap_i64]; omega
        have w3' : ((L : Int) - 1 - k).toNat = L - 1 - k := by omega
        have w4' : 0 ≤ (L : Int) - 1 - k := by omega
        have w5' : (L : Int) - 1 - k < L := by omega
        clear hy
        go_wp2_with fail
        go_quiet (fail)
        go_wp2_with fail
        go_roundw
        case rel => exact ⟨k + 1, _, by omega, by go_num, rfl⟩
        case measure => simp [intOf]; omega
      · obtain rfl : k = 4 := by omega
        have hbW : Below w3.heap.size w3 (w3.drewN nn) := bel_drewN (Below.refl _ _) nn
        generalize w3.drewN nn = W at *
        have ho1W := ho1'.below hbW
        have hwW := bel2 hw3 hbW
        have hz := hwW.size
        have hrbW : Rd W W.heap.size A2 (u8s ts) := (hrb.below hwW).more hz
        have hbel := (Below.refl W.heap.size W).alloc (Nat.le_refl _) (.cells #[] 5)
        have ho := Own.made (e := 5) (size := 1) W (Nat.le_refl _) #[] 0 0 (by decide) (by decide) rfl
        have hcut : Rd W W.heap.size (some ⟨g1, o1 + k1, none⟩) (u8s p) := by
          have := ho1W.rd.drop k1
          rwa [← List.map_drop, List.drop_left' HYA.out] at this
        have hr' := hcut.al (.cells #[] 5)
        have hdk : ¬ d1 = k1 := by omega
        have hkL : k1 ≤ L := by omega
        have hLk := Lib.hid (show L - k1 = 4 by have := HL.out; omega)
        clear HC1 HC2 ho1W hcut
        go_wp2_with fail
        refine (FA.out _).mono ?_
        rintro e w' ⟨rfl, rfl⟩
        go_wp2_with (at_builtin; refine wpList_app _ rfl (.tmp 96) (.tmp 101) 25 rfl W.heap.size 5 (.int .u8 0) 1 1 Try.underlying25 info5 rfl (by decide) _ 0 0 [] rfl ho _ (some ⟨g1, o1 + k1, none⟩) (L - k1) (d1 - k1) _ rfl (by rw [List.length_map, HPL.out, hLk.out]) hr' (u8s_one _) (by unfold maxLen; omega) (by omega) (by simp) ?_; intro A4 c4 w4 hown4 hg4 hbk4)
        simp only [Nat.zero_add, List.nil_append] at hown4
        have hb4 := bel_app hbel ho (Nat.le_refl _) hg4
        have hrb4 : Rd w4 w4.heap.size A2 (u8s ts) := (hrbW.below hb4).more hb4.size
        clear ho hg4 hbk4 hr' hbel
        refine (FB.out _).mono ?_
        rintro e w' ⟨rfl, rfl⟩
        go_wp2_with (at_builtin; refine wpList_app _ rfl (.tmp 102) (.tmp 104) 25 rfl W.heap.size 5 (.int .u8 0) 1 1 Try.underlying25 info5 rfl (by decide) A4 (L - k1) c4 _ rfl hown4 _ A2 k2 c2 _ rfl (by rw [List.length_map, HYB.out, Nat.mul_one]) hrb4 (u8s_one _) (by unfold maxLen; omega) (by omega) hb4.size ?_; intro A5 c5 w5 hown5 hg5 hbk5)
        have hb5 := bel_app hb4 hown4 (Nat.le_refl _) hg5
        have ho5 : Own w5 w.heap.size 5 1 A5 (L - k1 + k2) c5 (u8s (p ++ ts)) := by
          rw [show u8s (p ++ ts) = u8s p ++ u8s ts from List.map_append]; exact hown5.more hz
        have hrb5 : Rd w5 w5.heap.size A2 (u8s ts) := (hrbW.below hb5).more hb5.size
        clear hown5 hown4 hg5 hbk5 hrb4
        refine (T1.out _ _ _ _ (by rw [hLk.out]) ho5).mono ?_
        rintro e w6 ⟨A6, c6, rfl, cv6, hb6⟩
        have hrb6 : Rd w6 w6.heap.size A2 (u8s ts) := (hrb5.below hb6).more hb6.size
        have cq6 := fun nq => cv6 _ (bel_drewN (Below.refl w6.heap.size w6) nq)
        have cv7 := hrb6.conv Try.underlying25 Try.underlying5 Try.underlying9 (c := c2) (Nat.le_refl _) HYB.out.symm
        have cq7 := fun nq => cv7 _ (bel_drewN (Below.refl w6.heap.size w6) nq)
        clear cv6 cv7
        go_wp2_with fail
        go_quiet ((first | (go_at_call 22; exact Calls.quiet_of_same (FR'.out _)) | (go_at_call 16; exact Calls.quiet_of_same (MQ'.out _))))
        go_wp2_with fail
        go_ret
        exact ⟨rfl, bel_drewN (bel2 (bel2 hwW hb5) hb6) _⟩
set_option maxHeartbeats 4000000 in
theorem back_8 (A1 : Option Addr) (n1 c1 : Nat) (xs : List Int) (A2 : Option Addr) (n2 c2 : Nat) (zs : List Int) (v u : Int) (big : Bool) (w : World)
    (h0 : 0 ≤ v) (h1 : v < 18446744073709551616) (h : u % 4 = 3) (hu : 0 ≤ u) (hu' : u < 256)
    (hx1 : xs.length = n1) (hb1 : Rd w w.heap.size A1 (u8s xs)) (hn1 : n1 ≤ c1) (hc1 : c1 ≤ maxLen) (hA1 : A1 = none → n1 = 0 ∧ c1 = 0) (hu1 : ∀ x ∈ xs, 0 ≤ x ∧ x < 256)
    (hx2 : zs.length = n2) (hb2 : Rd w w.heap.size A2 (u8s zs)) (hn2 : n2 ≤ c2) (hc2 : c2 ≤ maxLen) (hA2 : A2 = none → n2 = 0 ∧ c2 = 0) (hu2 : ∀ x ∈ zs, 0 ≤ x ∧ x < 256) :
    Calls Try.prog 6 #[.slice A1 n1 c1, .slice A2 n2 c2, .int .u64 v, .int .u8 u, .bool big] w fun e w' => e = .returned (.bool true) ∧ Below w.heap.size w w' := by
  have FA := Lib.hid (fun W => few_any A1 n1 c1 W hn1 (by omega) hA1)
  have FB := Lib.hid (fun W => few_any A2 n2 c2 W hn2 (by omega) hA2)
  have hya : (xs.take 20).length = min n1 20 := by simp [hx1, Nat.min_comm]
  have hyb : (zs.take 20).length = min n2 20 := by simp [hx2, Nat.min_comm]
  have hra : Rd w w.heap.size A1 (u8s (xs.take 20)) := by
    have := hb1.take 20
    rwa [← List.map_take] at this
  have hrb : Rd w w.heap.size A2 (u8s (zs.take 20)) := by
    have := hb2.take 20
    rwa [← List.map_take] at this
  have hua : ∀ x ∈ xs.take 20, 0 ≤ x ∧ x < 256 := fun x hx => hu1 x (List.mem_of_mem_take hx)
  have hub : ∀ x ∈ zs.take 20, 0 ≤ x ∧ x < 256 := fun x hx => hu2 x (List.mem_of_mem_take hx)
  have hk1 : min n1 20 ≤ 20 := by omega
  have hk2 : min n2 20 ≤ 20 := by omega
  clear hx1 hx2 hb1 hb2 hu1 hu2 hA1 hA2 hn1 hn2 hc1 hc2
  generalize xs.take 20 = ys at *
  generalize zs.take 20 = ts at *
  generalize min n1 20 = k1 at *
  generalize min n2 20 = k2 at *
  have HYA := Lib.hid hya
  have HYB := Lib.hid hyb
  obtain ⟨m, mi, hm, hmi⟩ : ∃ (m : Nat) (mi : Int), m = 8 ∧ mi = 8 := ⟨_, _, rfl, rfl⟩
  all_goals
    have hw : isW m = true := by rw [hm]; rfl
    have hm8 : m ≤ 8 := by omega
    have hm0 : 0 < m := by omega
    obtain ⟨L, hL⟩ : ∃ L, k1 + m = L := ⟨_, rfl⟩
    -- the first Put
    have P1 : Hid (∀ W, Rd W W.heap.size A1 (u8s ys) → Calls Try.prog 17 #[.slice A1 k1 c1, .int .u64 v, .int .i64 m, .bool big] W fun e w' => ∃ g o c, e = .returned (.tuple #[.slice (some ⟨g, o, none⟩) L c, .int .i64 0]) ∧ L ≤ c ∧ c ≤ maxLen ∧ Own w' W.heap.size 5 1 (some ⟨g, o, none⟩) L c (u8s (ys ++ putB v m big)) ∧ Below W.heap.size W w') := fun W hr => by
      refine (put_any A1 k1 c1 ys v m big W hw hya hr (by omega) h0 h1).mono ?_
      rintro e w' ⟨A, c, rfl, ho, hb⟩
      have el : (ys ++ putB v m big).length = L := by rw [List.length_append, hya, putB_len, hL]
      rw [el] at ho ⊢
      obtain ⟨g, o, rfl⟩ := ho.at_ (by omega)
      exact ⟨g, o, c, rfl, ho.2.1, ho.2.2.1, ho, hb⟩
    have P2 : Hid (∀ W, Calls Try.prog 17 #[.slice none 0 0, .int .u64 v, .int .i64 m, .bool (!big)] W fun e w' => ∃ g o c, e = .returned (.tuple #[.slice (some ⟨g, o, none⟩) m c, .int .i64 0]) ∧ m ≤ c ∧ Own w' W.heap.size 5 1 (some ⟨g, o, none⟩) m c (u8s (putB v m big).reverse) ∧ Below W.heap.size W w') := fun W => by
      refine (put_any none 0 0 [] v m (!big) W hw rfl Rd.nil (by omega) h0 h1).mono ?_
      rintro e w' ⟨A, c, rfl, ho, hb⟩
      rw [List.nil_append, putB_flip] at ho ⊢
      have el : (putB v m big).reverse.length = m := by rw [List.length_reverse, putB_len]
      rw [el] at ho ⊢
      obtain ⟨g, o, rfl⟩ := ho.at_ hm0
      exact ⟨g, o, c, rfl, ho.2.1, ho, hb⟩
    have T1 : Hid (∀ W A c nn, nn = m + k2 → Own W w.heap.size 5 1 A nn c (u8s (putB v m big ++ ts)) → Calls Try.prog 24 #[.slice A nn c, .int .i64 m, .bool big] W fun e w' => ∃ A c, e = .returned (.tuple #[.int .u64 (v % (256 : Int) ^ m), .slice A k2 c, .int .i64 0]) ∧ (∀ w2, Below w'.heap.size w' w2 → (convert 25 9 (.slice A k2 c)).run Try.prog w2 = .ok (.string (bstr ts)) w2) ∧ Below W.heap.size W w') := fun W A c nn hnn ho => by
      subst hnn
      refine (take_any A (m + k2) c (putB v m big ++ ts) m big W hw (by omega) (by rw [List.length_append, putB_len, hyb]) ho.rd ho.2.1 (by omega) ho.2.2.1 (fun x hx => by
        rcases List.mem_append.1 hx with h | h
        · exact putB_bd _ _ _ x h
        · exact hub x h)).mono ?_
      rintro e w' ⟨A', c', rfl, ho', hb⟩
      rw [List.take_left' (putB_len _ _ _), List.drop_left' (putB_len _ _ _), take_put] at *
      rw [hyb] at ho' ⊢
      exact ⟨A', c', rfl, ho'.conv Try.underlying25 Try.underlying5 Try.underlying9 hyb.symm, hb⟩
    have M := Lib.hid (fun W => mask_any m W hw)
    have em := mask_and v m h0 h1 hm8
    have hwr : IntKind.i64.wrap ((k1 : Int) + mi) = (k1 : Int) + mi := by rw [IntKind.wrap_i64]; omega
    have hlb : ((L : Int) != (k1 : Int) + mi) = false := by rw [bne_eq_false_iff_eq]; omega
    have hL1 : k1 + m ≤ L := by omega
    have hL2 : L ≤ 28 := by omega
    have HL := Lib.hid hL
    have HPL : Hid ((putB v m big).length = m) := putB_len _ _ _
    generalize putB v m big = p at *
    generalize maskV m = mk at *
    generalize v % (256 : Int) ^ m = x at *
    clear hya hyb hua hub hw hm8 hL
    subst hm
    subst hmi
    go_enter Try.func6, Try.ntmps6
    go_wp2_with fail
    refine (shown_any _).mono ?_
    rintro e w1 ⟨rfl, hb1⟩
    have hra1 := (hra.below hb1).more hb1.size
    go_wp2_with fail
    refine (FA.out _).mono ?_
    rintro e w' ⟨rfl, rfl⟩
    go_wp2_with fail
    refine (P1.out _ hra1).mono ?_
    rintro e w2 ⟨g1, o1, d1, rfl, hd1, hd1', ho1, hb2⟩
    go_wp2_with fail
    refine (P2.out _).mono ?_
    rintro e w3 ⟨g2, o2, d2, rfl, hd2, ho2, hb3⟩
    have hra3 := (hra1.below (bel2 hb2 hb3)).more (bel2 hb2 hb3).size
    have hw3 := bel2 (bel2 hb1 hb2) hb3
    have ho1' := ho1.below hb3
    have rq1 : Rd w3 w3.heap.size (some ⟨g1, o1, none⟩) (u8s ys) := by
      have := ho1'.rd.take k1
      rwa [← List.map_take, List.take_left' HYA.out] at this
    have cv1 := rq1.conv Try.underlying25 Try.underlying5 Try.underlying9 (c := d1) (Nat.le_refl _) HYA.out.symm
    have cv2 := hra3.conv Try.underlying25 Try.underlying5 Try.underlying9 (c := c1) (Nat.le_refl _) HYA.out.symm
    have hd3 : k1 ≤ d1 := by omega
    go_wp2_with fail
    have FQ : ∀ W, Calls Try.prog 22 #[.slice A1 n1 c1] W fun e w' => e = .returned (.slice A1 k1 c1) ∧ w' = W := fun W => (FA.out W).mono fun e w' h => ⟨h.1, h.2.symm⟩
    have FQ' := Lib.hid FQ
    clear FQ
    have FR : ∀ W, Calls Try.prog 22 #[.slice A2 n2 c2] W fun e w' => e = .returned (.slice A2 k2 c2) ∧ w' = W := fun W => (FB.out W).mono fun e w' h => ⟨h.1, h.2.symm⟩
    have FR' := Lib.hid FR
    clear FR
    have MQ : ∀ W, Calls Try.prog 16 #[.int .i64 8] W fun e w' => e = .returned (.int .u64 mk) ∧ w' = W := fun W => (M.out W).mono fun e w' h => ⟨h.1, h.2.symm⟩
    have MQ' := Lib.hid MQ
    clear MQ
    have cq1 := fun nq => cv1 _ (bel_drewN (Below.refl w3.heap.size w3) nq)
    have cq2 := fun nq => cv2 _ (bel_drewN (Below.refl w3.heap.size w3) nq)
    clear cv1 cv2
    go_quiet ((go_at_call 22; exact Calls.quiet_of_same (FQ'.out _)))
    clear cq1 cq2 hwr hlb
    have HC1 := Lib.hid (fun k (x : Int) (h : p.reverse[k]? = some x) => ho2.cells k (.int .u8 x) (by rw [List.getElem?_map, h]; rfl))
    have HC2 := Lib.hid (fun k (x : Int) (h : (ys ++ p)[k]? = some x) => ho1'.cells k (.int .u8 x) (by rw [List.getElem?_map, h]; rfl))
    go_wp2_with fail
    go_loopw [78] (fun i wr => ∃ k nn : Nat, k ≤ 8 ∧ i = .int .i64 k ∧ wr = w3.drewN nn) (fun i _ => 8 - (intOf i).toNat)
    case atStart => exact ⟨0, _, Nat.zero_le _, rfl, rfl⟩
    case round =>
      obtain ⟨k, nn, hk, rfl, rfl⟩ := hrel
      by_cases hlt : k < 8
      · have hlt' : (k : Int) < 8 := by omega
        obtain ⟨y, hy⟩ : ∃ y, p.reverse[k]? = some y := ⟨_, List.getElem?_eq_getElem (by rw [List.length_reverse, HPL.out]; exact hlt)⟩
        have d1 := HC1.out k y hy
        have d2 := HC2.out (L - 1 - k) y (by
          rw [List.getElem?_append_right (by rw [HYA.out]; have := HL.out; omega), ← hy, List.getElem?_reverse (by rw [HPL.out]; exact hlt), HYA.out, HPL.out]
          congr 1
          have := HL.out
          omega)
        have w1' : IntKind.i64.wrap ((L : Int) - 1) = (L : Int) - 1 := by rw [IntKind.wrap_i64]; omega
        have w2' : IntKind.i64.wrap ((L : Int) - 1 - k) = (L : Int) - 1 - k := by rw [IntKind.wrap_i64]; omega
        have w3' : ((L : Int) - 1 - k).toNat = L - 1 - k := by omega
        have w4' : 0 ≤ (L : Int) - 1 - k := by omega
        have w5' : (L : Int) - 1 - k < L := by omega
        clear hy
        go_wp2_with fail
        go_quiet (fail)
        go_wp2_with fail
        go_roundw
        case rel => exact ⟨k + 1, _, by omega, by go_num, rfl⟩
        case measure => simp [intOf]; omega
      · obtain rfl : k = 8 := by omega
        have hbW : Below w3.heap.size w3 (w3.drewN nn) := bel_drewN (Below.refl _ _) nn
        generalize w3.drewN nn = W at *
        have ho1W := ho1'.below hbW
        have hwW := bel2 hw3 hbW
        have hz := hwW.size
        have hrbW : Rd W W.heap.size A2 (u8s ts) := (hrb.below hwW).more hz
        have hbel := (Below.refl W.heap.size W).alloc (Nat.le_refl _) (.cells #[] 5)
        have ho := Own.made (e := 5) (size := 1) W (Nat.le_refl _) #[] 0 0 (by decide) (by decide) rfl
        have hcut : Rd W W.heap.size (some ⟨g1, o1 + k1, none⟩) (u8s p) := by
          have := ho1W.rd.drop k1
          rwa [← List.map_drop, List.drop_left' HYA.out] at this
        have hr' := hcut.al (.cells #[] 5)
        have hdk : ¬ d1 = k1 := by omega
        have hkL : k1 ≤ L := by omega
        have hLk := Lib.hid (show L - k1 = 8 by have := HL.out; omega)
        clear HC1 HC2 ho1W hcut
        go_wp2_with fail
        refine (FA.out _).mono ?_
        rintro e w' ⟨rfl, rfl⟩
        go_wp2_with (at_builtin; refine wpList_app _ rfl (.tmp 96) (.tmp 101) 25 rfl W.heap.size 5 (.int .u8 0) 1 1 Try.underlying25 info5 rfl (by decide) _ 0 0 [] rfl ho _ (some ⟨g1, o1 + k1, none⟩) (L - k1) (d1 - k1) _ rfl (by rw [List.length_map, HPL.out, hLk.out]) hr' (u8s_one _) (by unfold maxLen; omega) (by omega) (by simp) ?_; intro A4 c4 w4 hown4 hg4 hbk4)
        simp only [Nat.zero_add, List.nil_append] at hown4
        have hb4 := bel_app hbel ho (Nat.le_refl _) hg4
        have hrb4 : Rd w4 w4.heap.size A2 (u8s ts) := (hrbW.below hb4).more hb4.size
        clear ho hg4 hbk4 hr' hbel
        refine (FB.out _).mono ?_
        rintro e w' ⟨rfl, rfl⟩
        go_wp2_with (at_builtin; refine wpList_app _ rfl (.tmp 102) (.tmp 104) 25 rfl W.heap.size 5 (.int .u8 0) 1 1 Try.underlying25 info5 rfl (by decide) A4 (L - k1) c4 _ rfl hown4 _ A2 k2 c2 _ rfl (by rw [List.length_map, HYB.out, Nat.mul_one]) hrb4 (u8s_one _) (by unfold maxLen; omega) (by omega) hb4.size ?_; intro A5 c5 w5 hown5 hg5 hbk5)
        have hb5 := bel_app hb4 hown4 (Nat.le_refl _) hg5
        have ho5 : Own w5 w.heap.size 5 1 A5 (L - k1 + k2) c5 (u8s (p ++ ts)) := by
          rw [show u8s (p ++ ts) = u8s p ++ u8s ts from List.map_append]; exact hown5.more hz
        have hrb5 : Rd w5 w5.heap.size A2 (u8s ts) := (hrbW.below hb5).more hb5.size
        clear hown5 hown4 hg5 hbk5 hrb4
        refine (T1.out _ _ _ _ (by rw [hLk.out]) ho5).mono ?_
        rintro e w6 ⟨A6, c6, rfl, cv6, hb6⟩
        have hrb6 : Rd w6 w6.heap.size A2 (u8s ts) := (hrb5.below hb6).more hb6.size
        have cq6 := fun nq => cv6 _ (bel_drewN (Below.refl w6.heap.size w6) nq)
        have cv7 := hrb6.conv Try.underlying25 Try.underlying5 Try.underlying9 (c := c2) (Nat.le_refl _) HYB.out.symm
        have cq7 := fun nq => cv7 _ (bel_drewN (Below.refl w6.heap.size w6) nq)
        clear cv6 cv7
        go_wp2_with fail
        go_quiet ((first | (go_at_call 22; exact Calls.quiet_of_same (FR'.out _)) | (go_at_call 16; exact Calls.quiet_of_same (MQ'.out _))))
        go_wp2_with fail
        go_ret
        exact ⟨rfl, bel_drewN (bel2 (bel2 hwW hb5) hb6) _⟩
theorem back_any (A1 : Option Addr) (n1 c1 : Nat) (xs : List Int) (A2 : Option Addr) (n2 c2 : Nat) (zs : List Int) (v u : Int) (big : Bool) (w : World)
    (h0 : 0 ≤ v) (h1 : v < 18446744073709551616) (hu : 0 ≤ u) (hu' : u < 256)
    (hx1 : xs.length = n1) (hb1 : Rd w w.heap.size A1 (u8s xs)) (hn1 : n1 ≤ c1) (hc1 : c1 ≤ maxLen) (hA1 : A1 = none → n1 = 0 ∧ c1 = 0) (hu1 : ∀ x ∈ xs, 0 ≤ x ∧ x < 256)
    (hx2 : zs.length = n2) (hb2 : Rd w w.heap.size A2 (u8s zs)) (hn2 : n2 ≤ c2) (hc2 : c2 ≤ maxLen) (hA2 : A2 = none → n2 = 0 ∧ c2 = 0) (hu2 : ∀ x ∈ zs, 0 ≤ x ∧ x < 256) :
    Calls Try.prog 6 #[.slice A1 n1 c1, .slice A2 n2 c2, .int .u64 v, .int .u8 u, .bool big] w fun e w' => e = .returned (.bool true) ∧ Below w.heap.size w w' := by
  rcases wide_cases u with h | h | h | h
  · exact back_1 A1 n1 c1 xs A2 n2 c2 zs v u big w h0 h1 h hu hu' hx1 hb1 hn1 hc1 hA1 hu1 hx2 hb2 hn2 hc2 hA2 hu2
  · exact back_2 A1 n1 c1 xs A2 n2 c2 zs v u big w h0 h1 h hu hu' hx1 hb1 hn1 hc1 hA1 hu1 hx2 hb2 hn2 hc2 hA2 hu2
  · exact back_4 A1 n1 c1 xs A2 n2 c2 zs v u big w h0 h1 h hu hu' hx1 hb1 hn1 hc1 hA1 hu1 hx2 hb2 hn2 hc2 hA2 hu2
  · exact back_8 A1 n1 c1 xs A2 n2 c2 zs v u big w h0 h1 h hu hu' hx1 hb1 hn1 hc1 hA1 hu1 hx2 hb2 hn2 hc2 hA2 hu2
end Go.Proofs.Ytpfcmepiiphbiaa
