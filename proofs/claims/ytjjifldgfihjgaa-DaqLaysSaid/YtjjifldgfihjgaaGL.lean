/- Daq: the document's example. -/
import Derived.Test.YtjjifldgfihjgaaGJ
namespace Go.Proofs.Ytjjifldgfihjgaa
open Go.RowKit
set_option linter.unusedVariables false
set_option linter.unusedSimpArgs false
theorem CW.rule {w0 w : World} {Φ : Who} {A : Option Addr} {c : Nat} {l : List Cb} (h : CW w0 Φ A c l w) {k : Nat} {x : Cb} (hx : l[k]? = some x) {b o : Nat} (hA : A = some ⟨b, o, none⟩) : ∀ j u, (Cb.cs x)[j]? = some u → w.cell? ⟨b, o + k * 8 + j, none⟩ = some u := by
  obtain ⟨b', o', h1, h2⟩ := h.cell hx
  rw [hA] at h1
  simp only [Option.some.injEq, Addr.mk.injEq, and_true] at h1
  obtain ⟨rfl, rfl⟩ := h1
  exact h2
/-- A slice literal of commands, just made. -/
theorem CW.lit {w0 w : World} {Φ : Who} (hN : Nu Φ w) (hb : Below w0.heap.size w0 w) (l : List Cb) (hl : l.length ≤ maxLen) (hc : ∀ x ∈ l, CbIn w w0.heap.size x) (cs : Array Value) (hcs : cs = (ccells l).toArray) : CW w0 Φ (some ⟨w.heap.size, 0, none⟩) l.length l (w.alloc (.cells cs 33)) := by
  subst hcs
  have ho := Own.made (e := 33) (size := 8) w (Nat.le_refl _) (ccells l).toArray l.length l.length (Nat.le_refl _) hl (by simp only [List.size_toArray]; exact ccells_len l)
  refine ⟨⟨?_, fun g hg => ?_⟩, fun x hx => (hc x hx).below ((bl1 w _).mono hb.size), hN.below (bl1 w _), hb.trans ((bl1 w _).mono hb.size)⟩
  · have e : List.take (l.length * 8) (ccells l).toArray.toList = ccells l := List.take_of_length_le (by show (ccells l).length ≤ _; rw [ccells_len]; exact Nat.le_refl _)
    rw [e] at ho
    exact ho.more hb.size
  · simp [blkOf] at hg
    subst hg
    exact hN _ (Nat.le_refl _)
set_option maxRecDepth 100000 in
set_option maxHeartbeats 4000000 in
theorem shown_any (w : World) : Calls Try.prog 9 #[] w fun e w' => e = .returned (.bool true) ∧ Below w.heap.size w w' := by
  have N1 := Lib.hid (newd_any (fun _ => (0, 9)) w.heap.size 1 w (Nat.le_refl _) (nu0 w) (by decide) (by decide))
  go_enter Try.func9, Try.ntmps9
  go_wp2_with fail
  refine N1.out.mono ?_
  rintro e w1 ⟨q, Φ1, rfl, hq, hX, hx⟩
  have hb1 := hx.below (Nat.le_refl _)
  have HX1 := Lib.hid hX
  have HN1 := Lib.hid hx.nu
  clear N1 hX hx
  go_upto_region 3 with fail
  refine wp_named fun W hW => ?_
  obtain ⟨g0, hg0⟩ : ∃ g0, w1.heap.size = g0 := ⟨_, rfl⟩
  have HC : Hid (CW w Φ1 (some ⟨g0, 0, none⟩) 5 sh5 W) := Lib.hid (by rw [hW, ← hg0]; exact CW.lit HN1.out hb1 sh5 (by decide) (sh5_in _ _) _ rfl)
  have HX : Hid (DX Φ1 w.heap.size W q (shA 0)) := Lib.hid (by rw [hW]; exact HX1.out.below (bl1 w1 _))
  rw [hg0]
  clear hW hg0 HX1 HN1 hb1
  go_loopw [24] (fun iv wr => ∃ (k : Nat) (Φ : Who), k ≤ 5 ∧ iv = .int .i64 k ∧ DX Φ w.heap.size wr q (shA k) ∧ CW w Φ (some ⟨g0, 0, none⟩) 5 sh5 wr) (fun iv _ => 5 - (intOf iv).toNat)
  case atStart => exact ⟨0, Φ1, by decide, rfl, HX.out, HC.out⟩
  case round =>
    obtain ⟨k, Φ, hk, rfl, hX, hC⟩ := hrel
    by_cases hlt : k < 5
    · have hlt' : (k : Int) < 5 := by omega
      obtain ⟨x, hxk⟩ : ∃ x, sh5[k]? = some x := ⟨_, List.getElem?_eq_getElem hlt⟩
      have hr := hC.rule hxk rfl
      have q0 := hr 0 _ rfl
      have q1 := hr 1 _ rfl
      have q2 := hr 2 _ rfl
      have q3 := hr 3 _ rfl
      have q4 := hr 4 _ rfl
      have q5 := hr 5 _ rfl
      have q6 := hr 6 _ rfl
      have q7 := hr 7 _ rfl
      simp only [Nat.zero_add, Nat.add_zero] at q0 q1 q2 q3 q4 q5 q6 q7
      have hdo := do_cw (hX.below (bl1 wr (.cells x.1.cs.toArray 33))) (hC.below (bl1 wr (.cells x.1.cs.toArray 33))) (List.mem_of_getElem? hxk)
      rw [sh5_ok hxk] at hdo
      have D := Lib.hid hdo
      have HXK := Lib.hid hxk
      clear hr hdo hX hC hxk
      go_wp2_with fail
      refine D.out.mono ?_
      rintro e w2 ⟨V, d, Φ2, rfl, -, hX2, hC2, -⟩
      have HX2 := Lib.hid hX2
      have HC2 := Lib.hid hC2
      clear D hX2 hC2 q0 q1 q2 q3 q4 q5 q6 q7
      go_wp2_with fail
      go_roundw
      case rel => exact ⟨k + 1, Φ2, by omega, by go_num, HX2.out, HC2.out⟩
      case measure => simp [intOf]; omega
    · obtain rfl : k = 5 := by omega
      have hdo := do_in (x := (cm 25 0 1 0 0 0 0, [])) hX hC (cm_in _ _ (by decide))
      obtain ⟨r, hr⟩ : ∃ r, doX (shA 5) (cm 25 0 1 0 0 0 0) = r := ⟨_, rfl⟩
      have h2 := sh_last
      rw [hr] at h2
      change Calls Try.prog 12 _ _ (DoP _ _ _ _ _ _ _ (doX (shA 5) (cm 25 0 1 0 0 0 0))) at hdo
      rw [hr] at hdo
      obtain ⟨a6, rb, re⟩ := r
      simp only [Prod.mk.injEq] at h2
      obtain ⟨⟨rfl, rfl⟩, h4⟩ := h2
      have D := Lib.hid hdo
      have H4 := Lib.hid h4
      clear hr hdo hX hC h4
      go_wp2_with fail
      refine D.out.mono ?_
      rintro e w2 ⟨V, d, Φ2, rfl, ho2, hX2, hC2, -⟩
      have R := runs_any hX2
      rw [H4.out] at R
      have R := Lib.hid R
      have hb2 := hC2.bel
      have cv : (convert 31 9 (.slice V 1 d)).run Try.prog w2 = .ok (.string ⟨#[0]⟩) w2 := ho2.conv (P := Try.prog) Try.underlying31 Try.underlying5 Try.underlying9 rfl w2 (Below.refl _ _)
      clear D hX2 hC2 ho2
      go_wp2_with fail
      refine R.out.mono ?_
      rintro e w3 ⟨rfl, hb3⟩
      have hb4 := hb2.trans (hb3.mono hb2.size)
      clear R
      go_wp2_with fail
      go_ret
      exact ⟨rfl, hb4⟩
end Go.Proofs.Ytjjifldgfihjgaa
