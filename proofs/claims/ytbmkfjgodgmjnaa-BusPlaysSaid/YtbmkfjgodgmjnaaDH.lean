/- The bus of the reference: Put and Turn. -/
import Derived.Test.YtbmkfjgodgmjnaaDG
namespace Go.Proofs.Ytbmkfjgodgmjnaa
open Go.RowKit
set_option linter.unusedVariables false
set_option linter.unusedSimpArgs false
/-- What calls on the reference's boxes of D may write. -/
def SR (D : Nat → Prop) (c : Nat × Nat) : Prop := c.2 = 3 ∧ D c.1
theorem SR.of {D : Nat → Prop} {r : Nat} (h : D r) : ∀ c, Sr r c → SR D c := fun c hc => by unfold Sr at hc; subst hc; exact ⟨rfl, h⟩
theorem SR.no (D : Nat → Prop) {a b : Nat} (h : b ≠ 3) : ¬ SR D (a, b) := fun hc => h hc.1
/-- A state: the boxes, its own two blocks, the row of nodes. -/
def RTS (B : Nat) (D : Nat → Prop) (w0 : World) (Φ0 : Who) (g0 g : Nat) (c0 f : Fr) (A : Option Addr) (L : List (Option Nat)) (t : Nat → Bx) (w : World) : Prop :=
  ∃ Φ, Rbs Φ B w D t ∧ Ext B (SR D) Φ0 Φ w0 w ∧ BlC Φ (0, 7) w g0 26 c0.cs.toArray ∧ BlC Φ (0, 9) w g 26 f.cs.toArray ∧ RdC Φ B w A (ptrs L)
/-- The same without a result's block. -/
def RPS (B : Nat) (D : Nat → Prop) (w0 : World) (Φ0 : Who) (g : Nat) (f : Fr) (A : Option Addr) (L : List (Option Nat)) (t : Nat → Bx) (w : World) : Prop :=
  ∃ Φ, Rbs Φ B w D t ∧ Ext B (SR D) Φ0 Φ w0 w ∧ BlC Φ (0, 9) w g 26 f.cs.toArray ∧ RdC Φ B w A (ptrs L)
section
variable {B : Nat} {D : Nat → Prop} {w0 w w' : World} {Φ0 : Who} {g0 g : Nat} {c0 f : Fr} {A : Option Addr} {L : List (Option Nat)} {t : Nat → Bx}
theorem RTS.below (h : RTS B D w0 Φ0 g0 g c0 f A L t w) (hb : Below w.heap.size w w') : RTS B D w0 Φ0 g0 g c0 f A L t w' := by
  obtain ⟨Φ, h1, h2, h3, h4, h5⟩ := h
  exact ⟨Φ, h1.below hb, h2.grow hb, h3.below hb, h4.below hb, h5.below hb⟩
theorem RTS.cell (h : RTS B D w0 Φ0 g0 g c0 f A L t w) : ∀ i, w.cell? ⟨g, i, none⟩ = f.cs.toArray[i]? := by
  obtain ⟨Φ, h1, h2, h3, h4, h5⟩ := h
  exact h4.1.cell
theorem RTS.node (h : RTS B D w0 Φ0 g0 g c0 f A L t w) {k : Nat} {x : Option Nat} (hk : L[k]? = some x) : ∃ g o, A = some ⟨g, o, none⟩ ∧ ∀ w', Below w.heap.size w w' → w'.cell? ⟨g, o + k, none⟩ = some (ptr x) := by
  obtain ⟨Φ, k1, k2, k3, k4, k5⟩ := h
  obtain ⟨g, o, ea, hg, -, hc⟩ := k5 (fun e => by have := ptrs_get hk; rw [e] at this; simp at this)
  exact ⟨g, o, ea, fun w' hb => (hb.cell (p := ⟨g, o + k, none⟩) hg).trans (hc k _ (ptrs_get hk))⟩
theorem RTS.nodeA {ga oa : Nat} (h : RTS B D w0 Φ0 g0 g c0 f (some ⟨ga, oa, none⟩) L t w) {k r : Nat} (hk : L[k]? = some (some r)) : w.cell? ⟨ga, oa + k, none⟩ = some (.pointer (some ⟨r, 0, none⟩)) := by
  obtain ⟨g', o', e, hc⟩ := h.node hk
  simp only [Option.some.injEq, Addr.mk.injEq] at e
  obtain ⟨rfl, rfl, -⟩ := e
  exact hc _ (Below.refl _ _)
theorem RTS.blk0 (h : RTS B D w0 Φ0 g0 g c0 f A L t w) : Blk w g0 26 c0.cs.toArray := by
  obtain ⟨Φ, k1, k2, k3, k4, k5⟩ := h
  exact k3.1
theorem RTS.store (h : RTS B D w0 Φ0 g0 g c0 f A L t w) (h0 : w0.heap.size ≤ g0) (hB : B ≤ w0.heap.size) {x : Fr} (h2 : Blk w' g0 26 x.cs.toArray) (h3 : w.grownBy w' (some g0)) : RTS B D w0 Φ0 g0 g x f A L t w' := by
  obtain ⟨Φ, k1, k2, k3, k4, k5⟩ := h
  have he : Ext B (fun c => c = (0, 7)) Φ Φ w w' := ⟨fun _ _ => rfl, k2.nu.more h3.size, (Chg.of_grown h3).mono fun i _ hi => by injection hi with hi; subst hi; exact ⟨by omega, k3.2⟩⟩
  have hx : Ext B (SR D) Φ0 Φ w0 w' := ⟨k2.1, he.nu, k2.2.2.trans (Chg.of_grown h3) fun i hi hx => by injection hx; omega⟩
  exact ⟨Φ, k1.ext he (fun r _ h => by simp at h) (by simp), hx, ⟨h2, k3.2⟩, k4.ext he (by simp), k5.ext he (by simp)⟩
theorem rts_take (h : RTS B D w0 Φ0 g0 g c0 f A L t w) (hB : B ≤ w0.heap.size) {r : Nat} (hr : D r) (hf : f.wf) : Calls Try.prog 30 #[.pointer (some ⟨r, 0, none⟩), f.val] w fun e w' => e = .returned (.bool (takeB (t r) f)) ∧ RTS B D w0 Φ0 g0 g c0 f A L (upd t r (takeX (t r) f)) w' := by
  obtain ⟨Φ, h1, h2, h3, h4, h5⟩ := h
  refine (rtake_any (h1 r hr) (Nat.le_trans hB h2.size) h2.nu f hf).mono ?_
  rintro e w' ⟨rfl, g1, g2⟩
  have g3 := g2.mono (S' := SR D) (Nat.le_refl _) (SR.of hr)
  exact ⟨rfl, Φ, h1.upd g2 g1, h2.trans g3, h3.ext g3 (SR.no D (by decide)), h4.ext g3 (SR.no D (by decide)), h5.ext g3 (SR.no D (by decide))⟩
theorem rts_done (h : RTS B D w0 Φ0 g0 g c0 f A L t w) (hB : B ≤ w0.heap.size) {r : Nat} (hr : D r) : Calls Try.prog 29 #[.pointer (some ⟨r, 0, none⟩)] w fun e w' => e = .returned (.tuple #[]) ∧ ∃ tx, sent tx = (sent (t r).tx).tail ∧ RTS B D w0 Φ0 g0 g c0 f A L (upd t r { t r with tx := tx }) w' := by
  obtain ⟨Φ, h1, h2, h3, h4, h5⟩ := h
  refine (rdone_any (h1 r hr) (Nat.le_trans hB h2.size) h2.nu).mono ?_
  rintro e w' ⟨tx, ht, rfl, g1, g2⟩
  have g3 := g2.mono (S' := SR D) (Nat.le_refl _) (SR.of hr)
  exact ⟨rfl, tx, ht, Φ, h1.upd g2 g1, h2.trans g3, h3.ext g3 (SR.no D (by decide)), h4.ext g3 (SR.no D (by decide)), h5.ext g3 (SR.no D (by decide))⟩
theorem RPS.below (h : RPS B D w0 Φ0 g f A L t w) (hb : Below w.heap.size w w') : RPS B D w0 Φ0 g f A L t w' := by
  obtain ⟨Φ, h1, h2, h4, h5⟩ := h
  exact ⟨Φ, h1.below hb, h2.grow hb, h4.below hb, h5.below hb⟩
theorem RPS.cell (h : RPS B D w0 Φ0 g f A L t w) : ∀ i, w.cell? ⟨g, i, none⟩ = f.cs.toArray[i]? := by
  obtain ⟨Φ, h1, h2, h4, h5⟩ := h
  exact h4.1.cell
theorem RPS.ad (h : RPS B D w0 Φ0 g f A L t w) (hL : L ≠ []) : ∃ g o, A = some ⟨g, o, none⟩ := by
  obtain ⟨Φ, k1, k2, k4, k5⟩ := h
  obtain ⟨g, o, ea, -⟩ := k5 (fun e => hL (by simpa [ptrs] using e))
  exact ⟨g, o, ea⟩
theorem RPS.node {ga oa : Nat} (h : RPS B D w0 Φ0 g f (some ⟨ga, oa, none⟩) L t w) {k r : Nat} (hk : L[k]? = some (some r)) : w.cell? ⟨ga, oa + k, none⟩ = some (.pointer (some ⟨r, 0, none⟩)) := by
  obtain ⟨Φ, k1, k2, k4, k5⟩ := h
  obtain ⟨g, o, ea, hg, -, hc⟩ := k5 (fun e => by have := ptrs_get hk; rw [e] at this; simp at this)
  simp only [Option.some.injEq, Addr.mk.injEq] at ea
  obtain ⟨rfl, rfl, -⟩ := ea
  exact hc k _ (ptrs_get hk)
theorem rps_take (h : RPS B D w0 Φ0 g f A L t w) (hB : B ≤ w0.heap.size) {r : Nat} (hr : D r) (hf : f.wf) : Calls Try.prog 30 #[.pointer (some ⟨r, 0, none⟩), f.val] w fun e w' => e = .returned (.bool (takeB (t r) f)) ∧ RPS B D w0 Φ0 g f A L (upd t r (takeX (t r) f)) w' := by
  obtain ⟨Φ, h1, h2, h4, h5⟩ := h
  refine (rtake_any (h1 r hr) (Nat.le_trans hB h2.size) h2.nu f hf).mono ?_
  rintro e w' ⟨rfl, g1, g2⟩
  have g3 := g2.mono (S' := SR D) (Nat.le_refl _) (SR.of hr)
  exact ⟨rfl, Φ, h1.upd g2 g1, h2.trans g3, h4.ext g3 (SR.no D (by decide)), h5.ext g3 (SR.no D (by decide))⟩
end
theorem take_node {r : Nat → Nat} {k : Nat} (hk : k < 3) {x : Option Nat} (h : (nodesL r)[k]? = some x) : x = some (r k) := by
  rw [nodesL_get r hk] at h
  simpa using h.symm
/-- What a call of the reference's leaves. -/
def RCallP (Φ : Who) (B : Nat) (D : Nat → Prop) (w : World) (t' : (Nat → Bx) → Prop) (v : Value) (e : Ending) (w' : World) : Prop := e = .returned v ∧ ∃ Φ' t2, t' t2 ∧ Rbs Φ' B w' D t2 ∧ Ext B (SR D) Φ Φ' w w'
set_option maxHeartbeats 2000000 in
theorem rput_any {Φ : Who} {B : Nat} {w : World} {r : Nat → Nat} {t : Nat → Bx} {A : Option Addr} {c : Nat} (h : Rbs Φ B w (in3 r) t) (hN : Nu Φ w) (hB : B ≤ w.heap.size) (hr : RdC Φ B w A (ptrs (nodesL r))) (hnc : 3 ≤ c) (hc : c ≤ maxLen) (f : Fr) (hf : f.wf) :
    Calls Try.prog 43 #[f.val, .slice A 3 c] w (RCallP Φ B (in3 r) w (fun t2 => t2 = (putK (nodesL r) t f 3).1) (.int .i64 (putK (nodesL r) t f 3).2)) := by
  unfold maxLen at hc
  obtain ⟨g, o, rfl⟩ : ∃ g o, A = some ⟨g, o, none⟩ := by
    obtain ⟨g, o, ea, -⟩ := hr (by simp [ptrs, nodesL])
    exact ⟨g, o, ea⟩
  go_enter Try.func43, Try.ntmps43
  go_upto_region 1 with fail
  refine wp_named fun W hW => ?_
  obtain ⟨BW, hbW⟩ := blk1 (c1 := f.cs.toArray) hW
  have H0 : Hid (RPS B (in3 r) w Φ w.heap.size f (some ⟨g, o, none⟩) (nodesL r) t W) := Lib.hid ⟨Φ, h.below hbW, Ext.of_below hN hbW, ⟨BW, hN _ (Nat.le_refl _)⟩, hr.below hbW⟩
  clear hW BW hbW h hr hN
  go_wp2_with fail
  go_loopw [5, 6] (fun mv iv wr => ∃ (k : Nat), k ≤ 3 ∧ iv = .int .i64 k ∧ mv = .int .i64 (putK (nodesL r) t f k).2 ∧ RPS B (in3 r) w Φ w.heap.size f (some ⟨g, o, none⟩) (nodesL r) (putK (nodesL r) t f k).1 wr) (fun _ iv _ => 3 - (intOf iv).toNat)
  case atStart => exact ⟨0, by decide, rfl, rfl, H0.out⟩
  case round =>
    clear H0
    obtain ⟨k, hk, rfl, rfl, hP⟩ := hrel
    have hle := putK_le (nodesL r) t f k
    by_cases hlt : k < 3
    · have hlt' : (k : Int) < 3 := by omega
      have hkc : (k : Int) < c := by omega
      have hpk : putK (nodesL r) t f (k + 1) = (upd (putK (nodesL r) t f k).1 (r k) (takeX ((putK (nodesL r) t f k).1 (r k)) f), (putK (nodesL r) t f k).2 + if takeB ((putK (nodesL r) t f k).1 (r k)) f then 1 else 0) := by rw [putK, nodesL_get r hlt]
      obtain ⟨m, hm⟩ : ∃ m, (putK (nodesL r) t f k).2 = m := ⟨_, rfl⟩
      obtain ⟨s1, hs1⟩ : ∃ s1, (putK (nodesL r) t f k).1 = s1 := ⟨_, rfl⟩
      rw [hm, hs1] at hpk
      rw [hm] at hle
      rw [hs1] at hP
      rw [hm]
      obtain ⟨tk, htk⟩ : ∃ tk, takeB (s1 (r k)) f = tk := ⟨_, rfl⟩
      rw [htk] at hpk
      have FJ : Hid (∀ (m2 : Nat) W', m2 = m + (if tk then 1 else 0) → RPS B (in3 r) w Φ w.heap.size f (some ⟨g, o, none⟩) (nodesL r) (upd s1 (r k) (takeX (s1 (r k)) f)) W' → ∃ (k' : Nat), k' ≤ 3 ∧ Value.int .i64 ((k : Int) + 1) = .int .i64 k' ∧ Value.int .i64 (m2 : Int) = .int .i64 (putK (nodesL r) t f k').2 ∧ RPS B (in3 r) w Φ w.heap.size f (some ⟨g, o, none⟩) (nodesL r) (putK (nodesL r) t f k').1 W') := Lib.hid fun m2 W' h0 h1 => ⟨k + 1, by omega, by simp, by rw [hpk, h0], by rw [hpk]; exact h1⟩
      have HP := Lib.hid hP
      have HTK := Lib.hid htk
      have HRR : ∀ j w', (fun j w' => RPS B (in3 r) w Φ w.heap.size f (some ⟨g, o, none⟩) (nodesL r) (if j = 0 then s1 else upd s1 (r k) (takeX (s1 (r k)) f)) w') j w' → (∀ i, w'.cell? ⟨w.heap.size, i, none⟩ = f.cs.toArray[i]?) ∧ w'.cell? ⟨g, o + k, none⟩ = some (.pointer (some ⟨r k, 0, none⟩)) := fun j w' h => ⟨h.cell, h.node (nodesL_get r hlt)⟩
      clear hm hs1 htk hpk hP
      go_wp2_with fail
      refine wp_region_s [5] (fun j w' => RPS B (in3 r) w Φ w.heap.size f (some ⟨g, o, none⟩) (nodesL r) (if j = 0 then s1 else upd s1 (r k) (takeX (s1 (r k)) f)) w') (by kernel_rfl) (by kernel_rfl) (HP.out.below (Below.refl _ _).drew) ?_
      first
        | (refine wpS_skip (by rfl) (by rfl) ?_; try simp only [Act.put, List.setIfInBounds_toArray, List.set_cons_zero, List.set_cons_succ, Nat.reduceAdd])
        | (refine wpS_val (v := ?_) HRR (by rfl) (by rfl) ?_ ?_; rotate_left; · (intro w' hS; go_simp; first | done | with_reducible rfl)
           try simp only [Act.put, List.setIfInBounds_toArray, List.set_cons_zero, List.set_cons_succ, Nat.reduceAdd])
      first
        | (refine wpS_skip (by rfl) (by rfl) ?_; try simp only [Act.put, List.setIfInBounds_toArray, List.set_cons_zero, List.set_cons_succ, Nat.reduceAdd])
        | (refine wpS_val (v := ?_) HRR (by rfl) (by rfl) ?_ ?_; rotate_left; · (intro w' hS; go_simp; first | done | with_reducible rfl)
           try simp only [Act.put, List.setIfInBounds_toArray, List.set_cons_zero, List.set_cons_succ, Nat.reduceAdd])
      first
        | (refine wpS_skip (by rfl) (by rfl) ?_; try simp only [Act.put, List.setIfInBounds_toArray, List.set_cons_zero, List.set_cons_succ, Nat.reduceAdd])
        | (refine wpS_val (v := ?_) HRR (by rfl) (by rfl) ?_ ?_; rotate_left; · (intro w' hS; go_simp; first | done | with_reducible rfl)
           try simp only [Act.put, List.setIfInBounds_toArray, List.set_cons_zero, List.set_cons_succ, Nat.reduceAdd])
      first
        | (refine wpS_skip (by rfl) (by rfl) ?_; try simp only [Act.put, List.setIfInBounds_toArray, List.set_cons_zero, List.set_cons_succ, Nat.reduceAdd])
        | (refine wpS_val (v := ?_) HRR (by rfl) (by rfl) ?_ ?_; rotate_left; · (intro w' hS; go_simp; first | done | with_reducible rfl)
           try simp only [Act.put, List.setIfInBounds_toArray, List.set_cons_zero, List.set_cons_succ, Nat.reduceAdd])
      first
        | (refine wpS_skip (by rfl) (by rfl) ?_; try simp only [Act.put, List.setIfInBounds_toArray, List.set_cons_zero, List.set_cons_succ, Nat.reduceAdd])
        | (refine wpS_val (v := ?_) HRR (by rfl) (by rfl) ?_ ?_; rotate_left; · (intro w' hS; go_simp; first | done | with_reducible rfl)
           try simp only [Act.put, List.setIfInBounds_toArray, List.set_cons_zero, List.set_cons_succ, Nat.reduceAdd])
      first
        | (refine wpS_chain (v := ?_) (f := ?_) (args := ?_) 0 (by kernel_rfl) rfl (by intro p hp; first | omega | (obtain rfl : p = 0 := (by omega); exact ⟨_, rfl, by kernel_rfl⟩)) (of_decide_eq_true (by kernel_rfl)) (by rfl) HRR ?_ ?_ ?_; rotate_left 3
           · (intro w' hS; go_simp; first | done | (refine ⟨?_, ?_⟩ <;> with_reducible rfl) | with_reducible rfl)
           · (intro w' hS; have hS' : RPS B (in3 r) w Φ w.heap.size f (some ⟨g, o, none⟩) (nodesL r) s1 w' := hS; have ht := rps_take hS' hB (r := r k) ⟨k, hlt, rfl⟩ hf; rw [HTK.out] at ht; refine ht.mono ?_; rintro e w3 ⟨rfl, h2⟩; refine ⟨?_, h2⟩; with_reducible rfl)
           try simp only [Act.put, List.setIfInBounds_toArray, List.set_cons_zero, List.set_cons_succ, Nat.reduceAdd])
      refine wpS_done (by kernel_rfl) (fun w5 hS => ?_)
      have S5 := Lib.hid (show RPS B (in3 r) w Φ w.heap.size f (some ⟨g, o, none⟩) (nodesL r) (upd s1 (r k) (takeX (s1 (r k)) f)) w5 from hS)
      clear HRR hS HP HTK
      cases tk with
      | true =>
        have FF := FJ.out (m + 1) w5 (by simp) S5.out
        rw [show ((m + 1 : Nat) : Int) = (m : Int) + 1 from by simp] at FF
        have FF := Lib.hid FF
        clear FJ
        go_wp2_with fail
        go_roundw
        case rel => exact FF.out
        case measure => simp [intOf]; omega
      | false =>
        have FF := Lib.hid (FJ.out m w5 (by simp) S5.out)
        clear FJ
        go_wp2_with fail
        go_roundw
        case rel => exact FF.out
        case measure => simp [intOf]; omega
    · obtain rfl : k = 3 := by omega
      obtain ⟨m, hm⟩ : ∃ m, (putK (nodesL r) t f 3).2 = m := ⟨_, rfl⟩
      have HP : Hid (∀ v : Value, v = .int .i64 m → RCallP Φ B (in3 r) w (fun t2 => t2 = (putK (nodesL r) t f 3).1) (.int .i64 (putK (nodesL r) t f 3).2) (.returned v) wr) := Lib.hid fun v hv => by
        obtain ⟨Φ', h1, h2, -⟩ := hP
        exact ⟨by rw [hv, hm], Φ', _, rfl, h1, h2⟩
      rw [hm]
      simp only [show ((3 : Nat) : Int) = 3 from rfl]
      clear hP hm hle
      go_wp2_with fail
      go_ret
      exact HP.out _ rfl
/-- The boxes behind the first k nodes of a Turn in which node i has sent f. -/
def rtk (r : Nat → Nat) (t : Nat → Bx) (i : Nat) (f : Fr) (lost : Bool) : Nat → (Nat → Bx)
  | 0 => t
  | k + 1 => if (!(k == i) && !lost) = true then upd (rtk r t i f lost k) (r k) (takeX (rtk r t i f lost k (r k)) f) else rtk r t i f lost k
theorem rtk_at {r : Nat → Nat} (hr : inj3 r) (t : Nat → Bx) (i : Nat) (f : Fr) (lost : Bool) : ∀ k, k ≤ 3 → ∀ j, j < 3 → rtk r t i f lost k (r j) = if j < k ∧ j ≠ i ∧ lost = false then takeX (t (r j)) f else t (r j)
  | 0, _, j, hj => by rw [if_neg (fun h => by omega)]; rfl
  | k + 1, hk, j, hj => by
    have ih := rtk_at hr t i f lost k (by omega)
    unfold rtk
    by_cases hc : (!(k == i) && !lost) = true
    · rw [if_pos hc]
      simp at hc
      by_cases hjk : j = k
      · subst hjk
        rw [upd_eq, ih j hj, if_neg (fun h => by omega), if_pos ⟨by omega, hc.1, hc.2⟩]
      · rw [upd_ne _ _ (fun e => hjk (hr j k hj (by omega) e)), ih j hj]
        by_cases h1 : j < k ∧ j ≠ i ∧ lost = false
        · rw [if_pos h1, if_pos ⟨by omega, h1.2⟩]
        · rw [if_neg h1, if_neg (fun h => h1 ⟨by omega, h.2⟩)]
    · rw [if_neg hc, ih j hj]
      by_cases h1 : j < k ∧ j ≠ i ∧ lost = false
      · rw [if_pos h1, if_pos ⟨by omega, h1.2⟩]
      · rw [if_neg h1, if_neg (fun h => by
          rcases Nat.lt_or_ge j k with h2 | h2
          · exact h1 ⟨h2, h.2⟩
          · obtain rfl : j = k := by omega
            exact hc (by simp [h.2.1, h.2.2]))]
/-- What the reference's boxes say behind a Turn. -/
def RTurn (r : Nat → Nat) (t : Nat → Bx) (lost : Bool) (t2 : Nat → Bx) : Prop := ∀ j, j < 3 → (t2 (r j)).S = turnS (nodesL r) (RS t) 3 lost (r j)
theorem rturn_at {r : Nat → Nat} (hr : inj3 r) {t : Nat → Bx} {i : Nat} {f : Fr} {lost : Bool} (hfs : fstK (nodesL r) (RS t) 3 = (i, f, true)) (hi : i < 3) {tx : List Fr} (htx : sent tx = (sent (t (r i)).tx).tail) :
    RTurn r t lost (rtk r (upd t (r i) { t (r i) with tx := tx }) i f lost 3) := fun j hj => by
  rw [rtk_at hr _ i f lost 3 (Nat.le_refl _) j hj]
  unfold turnS
  rw [hfs]
  simp only [if_true, nodesL_get r hi]
  rw [afterT_at hr (RS t) hi f lost j hj]
  by_cases hji : j = i
  · subst hji
    rw [if_neg (fun h => h.2.1 rfl), if_pos rfl, upd_eq]
    unfold Bx.S RS
    rw [htx]
    rfl
  · rw [if_neg hji, upd_ne _ _ (fun e => hji (hr j i hj hi e))]
    cases lost with
    | true => simp; rfl
    | false =>
      rw [if_pos ⟨hj, hji, rfl⟩]
      simp only [Bool.false_eq_true, if_false]
      exact (S_take _ _).symm
theorem rturn_no {r : Nat → Nat} {t : Nat → Bx} {lost : Bool} (h : (fstK (nodesL r) (RS t) 3).2.2 = false) : RTurn r t lost t := fun j hj => by
  unfold turnS
  rw [h]
  rfl
set_option maxHeartbeats 4000000 in
theorem rturn_any {Φ : Who} {B : Nat} {w : World} {r : Nat → Nat} {t : Nat → Bx} {A : Option Addr} {c : Nat} (lost : Bool) (hri : inj3 r) (h : Rbs Φ B w (in3 r) t) (hN : Nu Φ w) (hB : B ≤ w.heap.size) (hr : RdC Φ B w A (ptrs (nodesL r))) (hnc : 3 ≤ c) (hc : c ≤ maxLen) :
    Calls Try.prog 42 #[.bool lost, .slice A 3 c] w (RCallP Φ B (in3 r) w (RTurn r t lost) (.tuple #[.int .i64 (turnV (nodesL r) (RS t) 3).1, (turnV (nodesL r) (RS t) 3).2.1.val, .bool (turnV (nodesL r) (RS t) 3).2.2])) := by
  have hL : ∀ x ∈ nodesL r, ∃ y, x = some y ∧ in3 r y := fun x hx => by
    simp [nodesL] at hx
    rcases hx with rfl | rfl | rfl
    · exact ⟨_, rfl, 0, by decide, rfl⟩
    · exact ⟨_, rfl, 1, by decide, rfl⟩
    · exact ⟨_, rfl, 2, by decide, rfl⟩
  have F := Lib.hid (fun W (hb : Below w.heap.size w W) => rfirst_any (n := 3) (c := c) (h.below hb) hL ((hr.rd.below hb).more hb.size) rfl hnc hc)
  have hfw := rfstK_wf h hL 3
  obtain ⟨g3, o3, rfl⟩ : ∃ g o, A = some ⟨g, o, none⟩ := by
    obtain ⟨g, o, ea, -⟩ := hr (by simp [ptrs, nodesL])
    exact ⟨g, o, ea⟩
  unfold maxLen at hc
  cases hok : (fstK (nodesL r) (RS t) 3).2.2 with
  | false =>
    have hV : turnV (nodesL r) (RS t) 3 = (0, Fr.none_, false) := by unfold turnV; rw [hok]; rfl
    have HP : Hid (∀ w', Below w.heap.size w w' → RCallP Φ B (in3 r) w (RTurn r t lost) (.tuple #[.int .i64 (0 : Nat), Fr.none_.val, .bool false]) (.returned (.tuple #[.int .i64 0, Fr.none_.val, .bool false])) w') := Lib.hid fun w' hb => ⟨rfl, Φ, t, rturn_no hok, h.below hb, Ext.of_below hN hb⟩
    rw [hV]
    rw [fstK_no _ _ 3 hok] at F
    clear h hr hN hV hok hfw
    go_enter Try.func42, Try.ntmps42
    go_upto_region 1 with fail
    refine wp_named fun W hW => ?_
    obtain ⟨B1, hbW⟩ := blk1 (c1 := Fr.none_.cs.toArray) hW
    have F1 := Lib.hid (F.out W hbW)
    clear hW F
    go_wp2_with fail
    refine F1.out.mono ?_
    rintro e w2 ⟨rfl, b2⟩
    have b2a := b2.trans ((bl1 w2 (.cells Fr.none_.cs.toArray 26)).mono b2.size)
    have BW := B1.below b2a
    have hb2 := hbW.trans (b2a.mono hbW.size)
    go_wp2_with (first | (refine wpList_build rfl 26 _ rfl (by kernel_rfl) ?_) | (refine wpList_storeB rfl 26 (.tmp 5) (.tmp 19) rfl w.heap.size 26 _ Fr.none_.cs.toArray (by kernel_rfl) (by kernel_rfl) BW rfl (by kernel_rfl) (by simp [Value.oneCell']) ?_; intro w3 B3 hg3))
    refine bodyPost_ret (v := .tuple #[.int .i64 0, Fr.none_.val, .bool false]) (results_blk3 Try.results42 _ w3 w.heap.size 26 _ _ rfl B3 Try.underlying26 rfl (by kernel_rfl)) rfl (HP.out _ (bel_grown hb2 hg3 (Nat.le_refl _)))
  | true =>
    have hV : turnV (nodesL r) (RS t) 3 = fstK (nodesL r) (RS t) 3 := by unfold turnV; rw [hok]; rfl
    have hi := (fstK_lt (nodesL r) (RS t) 3).2 hok
    obtain ⟨⟨i, f, b⟩, hF⟩ : ∃ z, fstK (nodesL r) (RS t) 3 = z := ⟨_, rfl⟩
    rw [hF] at hok hi hfw F hV
    simp only at hok hi hfw
    subst hok
    rw [hV]
    have HF := Lib.hid hF
    have HW0 : Hid (∀ W, W = w.alloc (.cells Fr.none_.cs.toArray 26) → ∀ w2, Below W.heap.size W w2 → RTS B (in3 r) w Φ w.heap.size w2.heap.size Fr.none_ f (some ⟨g3, o3, none⟩) (nodesL r) t (w2.alloc (.cells f.cs.toArray 26))) := Lib.hid fun W hW w2 hb => by
      have hx := (Ext.of_below (B := B) (S := fun _ => False) hN (bl1 w (.cells Fr.none_.cs.toArray 26))).paint (A := some ⟨w.heap.size, 0, none⟩) (k := (0, 7)) (fun g hg => by
        simp [blkOf] at hg
        subst hg
        exact ⟨by simp, fun h => by omega⟩)
      subst hW
      have hb2 := hb.trans ((bl1 w2 (.cells f.cs.toArray 26)).mono hb.size)
      refine ⟨_, (h.ext hx (fun _ _ h => h) (fun h => h)).below hb2, (hx.mono (Nat.le_refl _) (fun _ h => h.elim)).grow hb2, (show BlC _ _ _ _ _ _ from ⟨Blk.new _ _ _, paint_at rfl⟩).below hb2, ⟨Blk.new _ _ _, hx.nu _ hb.size⟩, (hr.ext hx (fun h => h)).below hb2⟩
    clear h hr hN hV hF hL
    go_enter Try.func42, Try.ntmps42
    go_upto_region 1 with fail
    refine wp_named fun W hW => ?_
    obtain ⟨B1, hbW⟩ := blk1 (c1 := Fr.none_.cs.toArray) hW
    have F1 := Lib.hid (F.out W hbW)
    have T1 := Lib.hid (HW0.out W hW)
    clear hW F HW0 B1 hbW
    go_wp2_with fail
    refine F1.out.mono ?_
    rintro e w2 ⟨rfl, b2⟩
    go_upto_region 4 with fail
    refine wp_named fun W2 hW2 => ?_
    have T2 : RTS B (in3 r) w Φ w.heap.size w2.heap.size Fr.none_ f (some ⟨g3, o3, none⟩) (nodesL r) t W2 := by subst hW2; exact T1.out w2 b2
    clear hW2 F1 T1 b2
    have hp := T2.nodeA (nodesL_get r hi)
    have DN := Lib.hid (rts_done T2 hB (r := r i) ⟨i, hi, rfl⟩)
    have hiI : (i : Int) < 3 := by omega
    obtain ⟨gf, hgf⟩ : ∃ gf, w2.heap.size = gf := ⟨_, rfl⟩
    rw [hgf] at DN ⊢
    clear T2 hgf
    go_wp2_with fail
    refine DN.out.mono ?_
    rintro e w4 ⟨rfl, tx, htx, T4⟩
    have HT := Lib.hid (rturn_at hri HF.out hi (lost := lost) htx)
    obtain ⟨t1, ht1⟩ : ∃ t1, upd t (r i) { t (r i) with tx := tx } = t1 := ⟨_, rfl⟩
    rw [ht1] at HT T4
    have T4 := Lib.hid T4
    clear DN hp htx ht1
    go_wp2_with fail
    go_loopw [10] (fun iv wr => ∃ (k : Nat), k ≤ 3 ∧ iv = .int .i64 k ∧ RTS B (in3 r) w Φ w.heap.size gf Fr.none_ f (some ⟨g3, o3, none⟩) (nodesL r) (rtk r t1 i f lost k) wr) (fun iv _ => 3 - (intOf iv).toNat)
    case atStart => exact ⟨0, by decide, rfl, T4.out⟩
    case round =>
      clear T4
      obtain ⟨k, hk, rfl, hP⟩ := hrel
      by_cases hlt : k < 3
      · have hlt' : (k : Int) < 3 := by omega
        have hrk : rtk r t1 i f lost (k + 1) = if (!(k == i) && !lost) = true then upd (rtk r t1 i f lost k) (r k) (takeX (rtk r t1 i f lost k (r k)) f) else rtk r t1 i f lost k := rfl
        obtain ⟨s1, hs1⟩ : ∃ s1, rtk r t1 i f lost k = s1 := ⟨_, rfl⟩
        rw [hs1] at hP hrk
        have FJ : Hid (∀ s2 W', rtk r t1 i f lost (k + 1) = s2 → RTS B (in3 r) w Φ w.heap.size gf Fr.none_ f (some ⟨g3, o3, none⟩) (nodesL r) s2 W' → ∃ (k' : Nat), k' ≤ 3 ∧ Value.int .i64 ((k : Int) + 1) = .int .i64 k' ∧ RTS B (in3 r) w Φ w.heap.size gf Fr.none_ f (some ⟨g3, o3, none⟩) (nodesL r) (rtk r t1 i f lost k') W') := Lib.hid fun s2 W' h0 h1 => ⟨k + 1, by omega, by simp, by rw [h0]; exact h1⟩
        have HRK := Lib.hid hrk
        have HP := Lib.hid hP
        clear hrk hs1 hP
        by_cases hki : k = i
        · subst hki
          have hkk : ((k : Int) != (k : Int)) = false := by simp
          have FF := Lib.hid (FJ.out s1 wr (by rw [HRK.out]; simp) HP.out)
          clear FJ HRK
          go_wp2_with fail
          go_roundw
          case rel => exact FF.out
          case measure => simp [intOf]; omega
        · have hkk : ((k : Int) != (i : Int)) = true := by simp; omega
          have hkk2 : ¬ ((k : Int) = (i : Int)) := by omega
          cases lost with
          | true =>
            have FF := Lib.hid (FJ.out s1 wr (by rw [HRK.out]; simp) HP.out)
            clear FJ HRK
            go_wp2_with fail
            go_roundw
            case rel => exact FF.out
            case measure => simp [intOf]; omega
          | false =>
            have F2 : Hid (∀ W', RTS B (in3 r) w Φ w.heap.size gf Fr.none_ f (some ⟨g3, o3, none⟩) (nodesL r) (upd s1 (r k) (takeX (s1 (r k)) f)) W' → _) := Lib.hid fun W' => FJ.out _ W' (by rw [HRK.out, if_pos (by simp [hki])])
            obtain ⟨tk, htk⟩ : ∃ tk, takeB (s1 (r k)) f = tk := ⟨_, rfl⟩
            have HTK := Lib.hid htk
            have HRR : ∀ j w', (fun j w' => RTS B (in3 r) w Φ w.heap.size gf Fr.none_ f (some ⟨g3, o3, none⟩) (nodesL r) (if j = 0 then s1 else upd s1 (r k) (takeX (s1 (r k)) f)) w') j w' → (∀ i, w'.cell? ⟨gf, i, none⟩ = f.cs.toArray[i]?) ∧ w'.cell? ⟨g3, o3 + k, none⟩ = some (.pointer (some ⟨r k, 0, none⟩)) := fun j w' h => ⟨h.cell, h.nodeA (nodesL_get r hlt)⟩
            clear FJ HRK htk
            go_wp2_with fail
            refine wp_region_s [5] (fun j w' => RTS B (in3 r) w Φ w.heap.size gf Fr.none_ f (some ⟨g3, o3, none⟩) (nodesL r) (if j = 0 then s1 else upd s1 (r k) (takeX (s1 (r k)) f)) w') (by kernel_rfl) (by kernel_rfl) (HP.out.below (Below.refl _ _).drew) ?_
            first
              | (refine wpS_skip (by rfl) (by rfl) ?_; try simp only [Act.put, List.setIfInBounds_toArray, List.set_cons_zero, List.set_cons_succ, Nat.reduceAdd])
              | (refine wpS_val (v := ?_) HRR (by rfl) (by rfl) ?_ ?_; rotate_left; · (intro w' hS; go_simp; first | done | with_reducible rfl)
                 try simp only [Act.put, List.setIfInBounds_toArray, List.set_cons_zero, List.set_cons_succ, Nat.reduceAdd])
            first
              | (refine wpS_skip (by rfl) (by rfl) ?_; try simp only [Act.put, List.setIfInBounds_toArray, List.set_cons_zero, List.set_cons_succ, Nat.reduceAdd])
              | (refine wpS_val (v := ?_) HRR (by rfl) (by rfl) ?_ ?_; rotate_left; · (intro w' hS; go_simp; first | done | with_reducible rfl)
                 try simp only [Act.put, List.setIfInBounds_toArray, List.set_cons_zero, List.set_cons_succ, Nat.reduceAdd])
            first
              | (refine wpS_skip (by rfl) (by rfl) ?_; try simp only [Act.put, List.setIfInBounds_toArray, List.set_cons_zero, List.set_cons_succ, Nat.reduceAdd])
              | (refine wpS_val (v := ?_) HRR (by rfl) (by rfl) ?_ ?_; rotate_left; · (intro w' hS; go_simp; first | done | with_reducible rfl)
                 try simp only [Act.put, List.setIfInBounds_toArray, List.set_cons_zero, List.set_cons_succ, Nat.reduceAdd])
            first
              | (refine wpS_skip (by rfl) (by rfl) ?_; try simp only [Act.put, List.setIfInBounds_toArray, List.set_cons_zero, List.set_cons_succ, Nat.reduceAdd])
              | (refine wpS_val (v := ?_) HRR (by rfl) (by rfl) ?_ ?_; rotate_left; · (intro w' hS; go_simp; first | done | with_reducible rfl)
                 try simp only [Act.put, List.setIfInBounds_toArray, List.set_cons_zero, List.set_cons_succ, Nat.reduceAdd])
            first
              | (refine wpS_skip (by rfl) (by rfl) ?_; try simp only [Act.put, List.setIfInBounds_toArray, List.set_cons_zero, List.set_cons_succ, Nat.reduceAdd])
              | (refine wpS_val (v := ?_) HRR (by rfl) (by rfl) ?_ ?_; rotate_left; · (intro w' hS; go_simp; first | done | with_reducible rfl)
                 try simp only [Act.put, List.setIfInBounds_toArray, List.set_cons_zero, List.set_cons_succ, Nat.reduceAdd])
            first
              | (refine wpS_chain (v := ?_) (f := ?_) (args := ?_) 0 (by kernel_rfl) rfl (by intro p hp; first | omega | (obtain rfl : p = 0 := (by omega); exact ⟨_, rfl, by kernel_rfl⟩)) (of_decide_eq_true (by kernel_rfl)) (by rfl) HRR ?_ ?_ ?_; rotate_left 3
                 · (intro w' hS; go_simp; first | done | (refine ⟨?_, ?_⟩ <;> with_reducible rfl) | with_reducible rfl)
                 · (intro w' hS; have hS' : RTS B (in3 r) w Φ w.heap.size gf Fr.none_ f (some ⟨g3, o3, none⟩) (nodesL r) s1 w' := hS; have ht := rts_take hS' hB (r := r k) ⟨k, hlt, rfl⟩ hfw; rw [HTK.out] at ht; refine ht.mono ?_; rintro e w3 ⟨rfl, h2⟩; refine ⟨?_, h2⟩; with_reducible rfl)
                 try simp only [Act.put, List.setIfInBounds_toArray, List.set_cons_zero, List.set_cons_succ, Nat.reduceAdd])
            refine wpS_done (by kernel_rfl) (fun w5 hS => ?_)
            have FF := Lib.hid (F2.out w5 hS)
            clear HRR hS HP HTK F2
            go_wp2_with fail
            go_roundw
            case rel => exact FF.out
            case measure => simp [intOf]; omega
      · obtain rfl : k = 3 := by omega
        obtain ⟨s4, hs4⟩ : ∃ s4, rtk r t1 i f lost 3 = s4 := ⟨_, rfl⟩
        rw [hs4] at hP HT
        have T8 := Lib.hid hP
        have HR3 : ∀ j w', (fun j w' => RTS B (in3 r) w Φ w.heap.size gf (if j = 0 then Fr.none_ else f) f (some ⟨g3, o3, none⟩) (nodesL r) s4 w') j w' → ∀ i, w'.cell? ⟨gf, i, none⟩ = f.cs.toArray[i]? := fun j w' h => h.cell
        simp only [show ((3 : Nat) : Int) = 3 from rfl]
        clear hP hs4
        go_wp2_with fail
        refine wp_region_s [3] (fun j w' => RTS B (in3 r) w Φ w.heap.size gf (if j = 0 then Fr.none_ else f) f (some ⟨g3, o3, none⟩) (nodesL r) s4 w') (by kernel_rfl) (by kernel_rfl) (T8.out.below (Below.refl _ _).drew) ?_
        first
          | (refine wpS_skip (by rfl) (by rfl) ?_; try simp only [Act.put, List.setIfInBounds_toArray, List.set_cons_zero, List.set_cons_succ, Nat.reduceAdd])
          | (refine wpS_val (v := ?_) HR3 (by rfl) (by rfl) ?_ ?_; rotate_left; · (intro w' hS; go_simp; first | done | with_reducible rfl)
             try simp only [Act.put, List.setIfInBounds_toArray, List.set_cons_zero, List.set_cons_succ, Nat.reduceAdd])
        first
          | (refine wpS_skip (by rfl) (by rfl) ?_; try simp only [Act.put, List.setIfInBounds_toArray, List.set_cons_zero, List.set_cons_succ, Nat.reduceAdd])
          | (refine wpS_val (v := ?_) HR3 (by rfl) (by rfl) ?_ ?_; rotate_left; · (intro w' hS; go_simp; first | done | with_reducible rfl)
             try simp only [Act.put, List.setIfInBounds_toArray, List.set_cons_zero, List.set_cons_succ, Nat.reduceAdd])
        first
          | (refine wpS_skip (by rfl) (by rfl) ?_; try simp only [Act.put, List.setIfInBounds_toArray, List.set_cons_zero, List.set_cons_succ, Nat.reduceAdd])
          | (refine wpS_val (v := ?_) HR3 (by rfl) (by rfl) ?_ ?_; rotate_left; · (intro w' hS; go_simp; first | done | with_reducible rfl)
             try simp only [Act.put, List.setIfInBounds_toArray, List.set_cons_zero, List.set_cons_succ, Nat.reduceAdd])
        refine wpS_step (v := undef) 0 (by kernel_rfl) rfl (by intro p hp; first | omega | (obtain rfl : p = 0 := (by omega); exact ⟨_, rfl, by kernel_rfl⟩)) (of_decide_eq_true (by kernel_rfl)) (fun w' hS => .inl ⟨by rfl, ?_⟩) (fun _ => rfl) ?_
        · have hS' : RTS B (in3 r) w Φ w.heap.size gf Fr.none_ f (some ⟨g3, o3, none⟩) (nodesL r) s4 w' := hS
          refine wp_storeB 26 (.tmp 5) (.tmp 45) rfl w.heap.size 26 Fr.none_.cs.toArray f.cs.toArray rfl rfl hS'.blk0 rfl (by kernel_rfl) (by simp [Value.oneCell']) (fun w'' h2 h3 => ⟨rfl, hS'.store (Nat.le_refl _) hB h2 h3⟩)
        try simp only [Act.put, List.setIfInBounds_toArray, List.set_cons_zero, List.set_cons_succ, Nat.reduceAdd]
        first
          | (refine wpS_skip (by rfl) (by rfl) ?_; try simp only [Act.put, List.setIfInBounds_toArray, List.set_cons_zero, List.set_cons_succ, Nat.reduceAdd])
          | (refine wpS_val (v := ?_) HR3 (by rfl) (by rfl) ?_ ?_; rotate_left; · (intro w' hS; go_simp; first | done | with_reducible rfl)
             try simp only [Act.put, List.setIfInBounds_toArray, List.set_cons_zero, List.set_cons_succ, Nat.reduceAdd])
        refine wpS_done (by kernel_rfl) (fun w9 hS => ?_)
        have T9 := Lib.hid (show RTS B (in3 r) w Φ w.heap.size gf f f (some ⟨g3, o3, none⟩) (nodesL r) s4 w9 from hS)
        have HP : Hid (RCallP Φ B (in3 r) w (RTurn r t lost) (.tuple #[.int .i64 i, f.val, .bool true]) (.returned (.tuple #[.int .i64 i, f.val, .bool true])) w9) := Lib.hid (by
          obtain ⟨Φ9, k1, k2, -⟩ := T9.out
          exact ⟨rfl, Φ9, s4, HT.out, k1, k2⟩)
        go_wp2_with fail
        refine bodyPost_ret (v := .tuple #[.int .i64 i, f.val, .bool true]) (results_blk3 Try.results42 _ w9 w.heap.size 26 _ _ rfl T9.out.blk0 Try.underlying26 rfl (by kernel_rfl)) rfl HP.out
end Go.Proofs.Ytbmkfjgodgmjnaa
