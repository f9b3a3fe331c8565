/- The bus of the reference: First. -/
import Derived.Test.YtbmkfjgodgmjnaaD9
import Derived.Test.YtbmkfjgodgmjnaaConf
import Derived.Test.YtbmkfjgodgmjnaaChain
namespace Go.Proofs.Ytbmkfjgodgmjnaa
open Go.RowKit
set_option linter.unusedVariables false
set_option linter.unusedSimpArgs false
/-- What the program's boxes would say. -/
def RS (t : Nat → Bx) : Nat → Bx := fun x => (t x).S
theorem fstK_no (L : List (Option Nat)) (s : Nat → Bx) : ∀ k, (fstK L s k).2.2 = false → fstK L s k = (0, Fr.none_, false)
  | 0, _ => rfl
  | k + 1, h => by
    unfold fstK at h ⊢
    split at h
    · exact fstK_no L s k h
    · next x hx =>
      split
      · next hc => rw [if_pos hc] at h; cases h
      · next hc => rw [if_neg hc] at h; exact fstK_no L s k h
theorem none_wf : Fr.none_.wf := ⟨by decide, by decide, by decide, by decide, fun i => by simp [Fr.none_, Fr.g]⟩
/-- Where First's loop stands: the number of the best, or -1. -/
def bestV (L : List (Option Nat)) (s : Nat → Bx) (k : Nat) : Int := if (fstK L s k).2.2 then (fstK L s k).1 else -1
section
variable {B : Nat} {D D' : Nat → Prop} {W0 w w' : World} {A A' : Option Addr} {L L' : List (Option Nat)} {s t : Nat → Bx} {Φ : Who}
theorem rhd_next (h : Rbs Φ B w D' t) {r : Nat} (hr : D' r) : Calls Try.prog 33 #[.pointer (some ⟨r, 0, none⟩)] w fun e w' => e = .returned (.tuple #[(hd (RS t) (some r)).1.val, .bool (hd (RS t) (some r)).2]) ∧ Below w.heap.size w w' :=
  rnext_any (h r hr) rfl rfl
theorem rhd_wf (h : Rbs Φ B w D' t) {r : Nat} (hr : D' r) : (hd (RS t) (some r)).1.wf := by
  have hw := (h r hr).2.1.tw
  show ((sent (t r).tx).headD Fr.none_).wf
  cases hs : sent (t r).tx with
  | nil => exact none_wf
  | cons f l => exact hw f (sent_mem _ _ rfl f (by rw [hs]; simp))
theorem rfstK_wf (h : Rbs Φ B w D' t) (hD : ∀ x ∈ L', ∃ r, x = some r ∧ D' r) : ∀ k, (fstK L' (RS t) k).2.1.wf
  | 0 => none_wf
  | k + 1 => by
    unfold fstK
    split
    · exact rfstK_wf h hD k
    · next x hx =>
      obtain ⟨r, rfl, hr⟩ := hD x (List.mem_of_getElem? hx)
      split
      · exact rhd_wf h hr
      · exact rfstK_wf h hD k
end
/-- First's own blocks: what it answers, the best so far, the one looked at. -/
def RfP (w : World) (x : Fr) (w' : World) : Prop := Below w.heap.size w w' ∧ Blk w' w.heap.size 26 Fr.none_.cs.toArray ∧ Blk w' (w.heap.size + 1) 26 x.cs.toArray
def RfQ (w : World) (g : Nat) (x y : Fr) (w' : World) : Prop := RfP w x w' ∧ Blk w' g 26 y.cs.toArray
set_option maxHeartbeats 4000000 in
theorem rfirst_any {Φ : Who} {B : Nat} {w : World} {D' : Nat → Prop} {t : Nat → Bx} {L : List (Option Nat)} {A : Option Addr} {n c : Nat} (h : Rbs Φ B w D' t) (hD : ∀ x ∈ L, ∃ r, x = some r ∧ D' r) (hr : Rd w w.heap.size A (ptrs L)) (hn : L.length = n) (hnc : n ≤ c) (hc : c ≤ maxLen) :
    Calls Try.prog 41 #[.slice A n c] w fun e w' => e = .returned (.tuple #[.int .i64 (fstK L (RS t) n).1, (fstK L (RS t) n).2.1.val, .bool (fstK L (RS t) n).2.2]) ∧ Below w.heap.size w w' := by
  unfold maxLen at hc
  have HN := Lib.hid hn
  have HH := Lib.hid h
  clear hn h
  go_enter Try.func41, Try.ntmps41
  go_upto_region 4 with fail
  refine wp_named fun W hW => ?_
  have H0 : Hid (RfP w Fr.none_ W) := Lib.hid (by
    obtain ⟨B1, B2, hbW⟩ := blk2 (c1 := Fr.none_.cs.toArray) (c2 := Fr.none_.cs.toArray) hW
    exact ⟨hbW, B1, B2⟩)
  clear hW
  go_loopw [5, 7] (fun bv iv wr => ∃ (k : Nat), k ≤ n ∧ iv = .int .i64 k ∧ bv = .int .i64 (bestV L (RS t) k) ∧ RfP w (fstK L (RS t) k).2.1 wr) (fun _ iv _ => n - (intOf iv).toNat)
  case atStart => exact ⟨0, Nat.zero_le _, rfl, rfl, H0.out⟩
  case round =>
    clear H0
    obtain ⟨k, hk, rfl, rfl, hP⟩ := hrel
    have hb := hP.1
    have hzr := hb.size
    by_cases hlt : k < n
    · have hlt' : (k : Int) < n := by omega
      obtain ⟨x, hxk⟩ : ∃ x, L[k]? = some x := ⟨_, List.getElem?_eq_getElem (by rw [HN.out]; exact hlt)⟩
      obtain ⟨g, o, ea, hgl, hcl⟩ := hr.below hb (by intro h; have := ptrs_len L; rw [h, HN.out] at this; simp at this; omega)
      obtain ⟨r, rfl, hDr⟩ := hD x (List.mem_of_getElem? hxk)
      have hp : wr.cell? ⟨g, o + k, none⟩ = some (.pointer (some ⟨r, 0, none⟩)) := hcl k _ (ptrs_get hxk)
      subst ea
      have N1 := Lib.hid (rhd_next (HH.out.below hb) hDr)
      have hyw := rhd_wf HH.out hDr
      have hbw := rfstK_wf HH.out hD k
      obtain ⟨y, hy⟩ : ∃ y, (hd (RS t) (some r)).1 = y := ⟨_, rfl⟩
      obtain ⟨oy, hoy⟩ : ∃ y, (hd (RS t) (some r)).2 = y := ⟨_, rfl⟩
      obtain ⟨a1, ha1⟩ : ∃ y, (fstK L (RS t) k).1 = y := ⟨_, rfl⟩
      obtain ⟨z, hz⟩ : ∃ y, (fstK L (RS t) k).2.1 = y := ⟨_, rfl⟩
      obtain ⟨oz, hoz⟩ : ∃ y, (fstK L (RS t) k).2.2 = y := ⟨_, rfl⟩
      have FJ : Hid (∀ (a2 : Nat) (z2 : Fr) (o2 : Bool) (b2 : Int) W', b2 = (if o2 then (a2 : Int) else -1) → (if oy && (!oz || decide (y.rank < z.rank)) then (k, y, true) else (a1, z, oz)) = (a2, z2, o2) → RfP w z2 W' → ∃ (k' : Nat), k' ≤ n ∧ Value.int .i64 ((k : Int) + 1) = .int .i64 k' ∧ Value.int .i64 b2 = .int .i64 (bestV L (RS t) k') ∧ RfP w (fstK L (RS t) k').2.1 W') := Lib.hid fun a2 z2 o2 b2 W' h0 h1 h2 => by
        have he : fstK L (RS t) (k + 1) = (a2, z2, o2) := by
          rw [fstK, hxk]
          dsimp only
          rw [hy, hoy, hz, hoz, h1.symm, ← ha1, ← hz, ← hoz]
        exact ⟨k + 1, by omega, by simp, by unfold bestV; rw [h0, he], by rw [he]; exact h2⟩
      obtain ⟨bv, hbv⟩ : ∃ bv, bestV L (RS t) k = bv := ⟨_, rfl⟩
      have HBV : Hid (bv = if oz then (a1 : Int) else -1) := Lib.hid (by rw [← hbv]; unfold bestV; rw [ha1, hoz])
      rw [hy, hoy] at N1
      rw [hy] at hyw
      rw [hz] at hbw hP
      rw [hbv]
      have R1 := Lib.hid (fun w => refrank_any y w hyw)
      have R2 := Lib.hid (fun w => refrank_any z w hbw)
      obtain ⟨r1, hr1⟩ : ∃ r1, y.rank = r1 := ⟨_, rfl⟩
      obtain ⟨r2, hr2⟩ : ∃ r1, z.rank = r1 := ⟨_, rfl⟩
      rw [hr1] at R1 FJ
      rw [hr2] at R2 FJ
      have HPH := Lib.hid hP
      clear hy hoy ha1 hz hoz hr1 hr2 hyw hbw hxk hcl hP hbv hgl
      go_wp2_with fail
      refine N1.out.mono ?_
      rintro e w3 ⟨rfl, b3⟩
      go_upto_region 7 with fail
      refine wp_named fun W3 hW3 => ?_
      obtain ⟨BY, hbW3⟩ := blk1 (c1 := y.cs.toArray) hW3
      have hg3 : w.heap.size + 1 < w3.heap.size := Nat.lt_of_lt_of_le HPH.out.2.2.lt b3.size
      obtain ⟨g3, hg3'⟩ : ∃ g3, w3.heap.size = g3 := ⟨_, rfl⟩
      rw [hg3'] at BY hg3 ⊢
      have b3W := b3.trans (hbW3.mono b3.size)
      have hgr : Hid (∀ w', Below W3.heap.size W3 w' → RfQ w g3 z y w') := Lib.hid fun w' h2 => ⟨⟨(hb.trans (b3W.mono hzr)).trans (h2.mono ((hb.trans (b3W.mono hzr))).size), (HPH.out.2.1.below b3W).below h2, (HPH.out.2.2.below b3W).below h2⟩, BY.below h2⟩
      have RY := BY.rule
      have C2 := HPH.out.2.2.below b3W
      have RZ := C2.rule
      clear hW3 N1 hp hg3' hbW3 b3 b3W C2 BY HPH hb
      have FK : Hid (∀ b2 W', b2 = (if oz then (a1 : Int) else -1) → (if oy && (!oz || decide (r1 < r2)) then (k, y, true) else (a1, z, oz)) = (a1, z, oz) → Below W3.heap.size W3 W' → _) := Lib.hid fun b2 W' h0 h1 h2 => FJ.out a1 z oz b2 W' h0 h1 (hgr.out _ h2).1
      cases oy
      · go_wp2_with fail
        refine wp_region_c (fun w' => Below W3.heap.size W3 w') (by kernel_rfl) (by kernel_rfl) ((Below.refl _ _).drew) ?_
        repeat (first
          | (refine wpL_skip (by rfl) ?_; try simp only [Act.put, List.setIfInBounds_toArray, List.set_cons_zero, List.set_cons_succ, Nat.reduceAdd])
          | (refine wpL_val (v := ?_) (by rfl) ?_ ?_; rotate_left; · (intro w' hS; go_simp; first | done | with_reducible rfl)
             try simp only [Act.put, List.setIfInBounds_toArray, List.set_cons_zero, List.set_cons_succ, Nat.reduceAdd]))
        refine wpL_done (fun w8 hS => ?_)
        go_wp2_with fail
        go_roundw
        case rel => exact FK.out _ _ HBV.out (by simp) hS
        case measure => simp [intOf]; omega
      · cases oz
        · obtain rfl : bv = -1 := HBV.out
          go_wp2_with fail
          refine wp_region_c (fun w' => Below W3.heap.size W3 w') (by kernel_rfl) (by kernel_rfl) ((Below.refl _ _).drew) ?_
          repeat (first
            | (refine wpL_skip (by rfl) ?_; try simp only [Act.put, List.setIfInBounds_toArray, List.set_cons_zero, List.set_cons_succ, Nat.reduceAdd])
            | (refine wpL_val (v := ?_) (by rfl) ?_ ?_; rotate_left; · (intro w' hS; go_simp; first | done | with_reducible rfl)
               try simp only [Act.put, List.setIfInBounds_toArray, List.set_cons_zero, List.set_cons_succ, Nat.reduceAdd]))
          refine wpL_done (fun w8 hS => ?_)
          obtain ⟨⟨q1, q2, q3⟩, q4⟩ := hgr.out _ hS
          have q4c := q4.cell
          go_wp2_with (refine wpList_storeB rfl 26 (.tmp 6) (.tmp 38) rfl (w.heap.size + 1) 26 _ y.cs.toArray rfl rfl q3 rfl (by kernel_rfl) (by simp [Value.oneCell']) ?_; intro w9 B9 hg9)
          go_roundw
          case rel => exact FJ.out k y true _ _ (by simp) (by simp) ⟨bel_grown q1 hg9 (by omega), q2.grown hg9 (by simp), B9⟩
          case measure => simp [intOf]; omega
        · obtain rfl : bv = a1 := HBV.out
          have ha0 : ¬ ((a1 : Int) < 0) := by omega
          have hb0 : decide ((a1 : Int) < 0) = false := decide_eq_false ha0
          go_wp2_with fail
          by_cases hrr : r1 < r2
          · have hd1 : decide (r1 < r2) = true := decide_eq_true hrr
            refine wp_region_c (fun w' => Below W3.heap.size W3 w') (by kernel_rfl) (by kernel_rfl) ((Below.refl _ _).drew) ?_
            repeat (first
              | (refine wpL_skip (by rfl) ?_; try simp only [Act.put, List.setIfInBounds_toArray, List.set_cons_zero, List.set_cons_succ, Nat.reduceAdd])
              | (refine wpL_val (v := ?_) (by rfl) ?_ ?_; rotate_left; · (intro w' hS; go_simp; first | done | with_reducible rfl)
                 try simp only [Act.put, List.setIfInBounds_toArray, List.set_cons_zero, List.set_cons_succ, Nat.reduceAdd])
              | (refine wpL_call (v := ?_) (f := ?_) (args := ?_) (by rfl) ?_ ?_ ?_; rotate_left 3
                 · (intro w' hS; go_simp; first | done | (refine ⟨?_, ?_⟩ <;> with_reducible rfl) | with_reducible rfl)
                 · (intro w' hS; first
                     | ((with_reducible refine (R1.out _).mono ?_); rintro e w2 ⟨rfl, hb⟩; refine ⟨?_, bel2 hS hb⟩; with_reducible rfl)
                     | ((with_reducible refine (R2.out _).mono ?_); rintro e w2 ⟨rfl, hb⟩; refine ⟨?_, bel2 hS hb⟩; with_reducible rfl))
                 try simp only [Act.put, List.setIfInBounds_toArray, List.set_cons_zero, List.set_cons_succ, Nat.reduceAdd]))
            refine wpL_done (fun w8 hS => ?_)
            obtain ⟨⟨q1, q2, q3⟩, q4⟩ := hgr.out _ hS
            have q4c := q4.cell
            go_wp2_with (refine wpList_storeB rfl 26 (.tmp 6) (.tmp 38) rfl (w.heap.size + 1) 26 _ y.cs.toArray rfl rfl q3 rfl (by kernel_rfl) (by simp [Value.oneCell']) ?_; intro w9 B9 hg9)
            go_roundw
            case rel => exact FJ.out k y true _ _ (by simp) (by simp [hrr]) ⟨bel_grown q1 hg9 (by omega), q2.grown hg9 (by simp), B9⟩
            case measure => simp [intOf]; omega
          · have hd1 : decide (r1 < r2) = false := decide_eq_false hrr
            refine wp_region_c (fun w' => Below W3.heap.size W3 w') (by kernel_rfl) (by kernel_rfl) ((Below.refl _ _).drew) ?_
            repeat (first
              | (refine wpL_skip (by rfl) ?_; try simp only [Act.put, List.setIfInBounds_toArray, List.set_cons_zero, List.set_cons_succ, Nat.reduceAdd])
              | (refine wpL_val (v := ?_) (by rfl) ?_ ?_; rotate_left; · (intro w' hS; go_simp; first | done | with_reducible rfl)
                 try simp only [Act.put, List.setIfInBounds_toArray, List.set_cons_zero, List.set_cons_succ, Nat.reduceAdd])
              | (refine wpL_call (v := ?_) (f := ?_) (args := ?_) (by rfl) ?_ ?_ ?_; rotate_left 3
                 · (intro w' hS; go_simp; first | done | (refine ⟨?_, ?_⟩ <;> with_reducible rfl) | with_reducible rfl)
                 · (intro w' hS; first
                     | ((with_reducible refine (R1.out _).mono ?_); rintro e w2 ⟨rfl, hb⟩; refine ⟨?_, bel2 hS hb⟩; with_reducible rfl)
                     | ((with_reducible refine (R2.out _).mono ?_); rintro e w2 ⟨rfl, hb⟩; refine ⟨?_, bel2 hS hb⟩; with_reducible rfl))
                 try simp only [Act.put, List.setIfInBounds_toArray, List.set_cons_zero, List.set_cons_succ, Nat.reduceAdd]))
            refine wpL_done (fun w8 hS => ?_)
            go_wp2_with fail
            go_roundw
            case rel => exact FK.out _ _ HBV.out (by simp [hrr]) hS
            case measure => simp [intOf]; omega
    · obtain rfl : k = n := by omega
      have hlt' : ¬ ((k : Int) < k) := by omega
      have HP : Hid (∀ (a : Nat) (f : Fr) (b : Bool) w', fstK L (RS t) k = (a, f, b) → Below w.heap.size w w' → (Ending.returned (.tuple #[.int .i64 a, f.val, .bool b]) = .returned (.tuple #[.int .i64 (fstK L (RS t) k).1, (fstK L (RS t) k).2.1.val, .bool (fstK L (RS t) k).2.2])) ∧ Below w.heap.size w w') := Lib.hid fun a f b w' h0 h => ⟨by rw [h0], h⟩
      unfold bestV
      cases hoz : (fstK L (RS t) k).2.2 with
      | false =>
        have hno := Lib.hid (fstK_no L (RS t) k hoz)
        rw [hno.out] at hP
        simp only [Bool.false_eq_true, if_false]
        obtain ⟨p1, p2, p3⟩ := hP
        clear hoz
        go_wp2_with (first | (refine wpList_build rfl 26 _ rfl (by kernel_rfl) ?_) | (refine wpList_storeB rfl 26 (.tmp 3) (.tmp 41) rfl w.heap.size 26 _ Fr.none_.cs.toArray (by kernel_rfl) (by kernel_rfl) p2 rfl (by kernel_rfl) (by simp [Value.oneCell']) ?_; intro w3 B3 hg3))
        refine bodyPost_ret (v := .tuple #[.int .i64 0, Fr.none_.val, .bool false]) (results_blk3 Try.results41 _ w3 w.heap.size 26 _ _ rfl B3 Try.underlying26 rfl (by kernel_rfl)) rfl (HP.out 0 Fr.none_ false _ hno.out (bel_grown p1 hg3 (Nat.le_refl _)))
      | true =>
        obtain ⟨a1, ha1⟩ : ∃ y, (fstK L (RS t) k).1 = y := ⟨_, rfl⟩
        obtain ⟨z, hz⟩ : ∃ y, (fstK L (RS t) k).2.1 = y := ⟨_, rfl⟩
        have hye : Hid (fstK L (RS t) k = (a1, z, true)) := Lib.hid (by rw [← ha1, ← hz, ← hoz])
        rw [hz] at hP
        rw [ha1]
        simp only [if_true]
        have ha0 : ¬ ((a1 : Int) < 0) := by omega
        have BH := Lib.hid (show RfQ w (w.heap.size + 1) z z wr from ⟨hP, hP.2.2⟩)
        have HR : ∀ s w', (fun s w' => Below w.heap.size w w' ∧ Blk w' w.heap.size 26 (if s = 0 then Fr.none_ else z).cs.toArray ∧ Blk w' (w.heap.size + 1) 26 z.cs.toArray) s w' → ∀ i, w'.cell? ⟨w.heap.size + 1, i, none⟩ = z.cs.toArray[i]? := fun s w' h => h.2.2.cell
        clear ha1 hz hoz hP
        go_wp2_with fail
        refine wp_region_s [3] (fun s w' => Below w.heap.size w w' ∧ Blk w' w.heap.size 26 (if s = 0 then Fr.none_ else z).cs.toArray ∧ Blk w' (w.heap.size + 1) 26 z.cs.toArray) (by kernel_rfl) (by kernel_rfl) (⟨hb.drew, BH.out.1.2.1.drew, BH.out.1.2.2.drew⟩) ?_
        first
          | (refine wpS_skip (by rfl) (by rfl) ?_; try simp only [Act.put, List.setIfInBounds_toArray, List.set_cons_zero, List.set_cons_succ, Nat.reduceAdd])
          | (refine wpS_val (v := ?_) HR (by rfl) (by rfl) ?_ ?_; rotate_left; · (intro w' hS; go_simp; first | done | with_reducible rfl)
             try simp only [Act.put, List.setIfInBounds_toArray, List.set_cons_zero, List.set_cons_succ, Nat.reduceAdd])
        first
          | (refine wpS_skip (by rfl) (by rfl) ?_; try simp only [Act.put, List.setIfInBounds_toArray, List.set_cons_zero, List.set_cons_succ, Nat.reduceAdd])
          | (refine wpS_val (v := ?_) HR (by rfl) (by rfl) ?_ ?_; rotate_left; · (intro w' hS; go_simp; first | done | with_reducible rfl)
             try simp only [Act.put, List.setIfInBounds_toArray, List.set_cons_zero, List.set_cons_succ, Nat.reduceAdd])
        first
          | (refine wpS_skip (by rfl) (by rfl) ?_; try simp only [Act.put, List.setIfInBounds_toArray, List.set_cons_zero, List.set_cons_succ, Nat.reduceAdd])
          | (refine wpS_val (v := ?_) HR (by rfl) (by rfl) ?_ ?_; rotate_left; · (intro w' hS; go_simp; first | done | with_reducible rfl)
             try simp only [Act.put, List.setIfInBounds_toArray, List.set_cons_zero, List.set_cons_succ, Nat.reduceAdd])
        refine wpS_step (v := undef) 0 (by kernel_rfl) rfl (by intro p hp; first | omega | (obtain rfl : p = 0 := (by omega); exact ⟨_, rfl, by kernel_rfl⟩)) (of_decide_eq_true (by kernel_rfl)) (fun w' hS => .inl ⟨by rfl, ?_⟩) (fun _ => rfl) ?_
        · have hS' : Below w.heap.size w w' ∧ Blk w' w.heap.size 26 Fr.none_.cs.toArray ∧ Blk w' (w.heap.size + 1) 26 z.cs.toArray := hS
          obtain ⟨p1, p2, p3⟩ := hS'
          refine wp_storeB 26 (.tmp 3) (.tmp 43) rfl w.heap.size 26 Fr.none_.cs.toArray z.cs.toArray rfl rfl p2 rfl (by kernel_rfl) (by simp [Value.oneCell']) (fun w'' h2 h3 => ⟨rfl, bel_grown p1 h3 (Nat.le_refl _), h2, p3.grown h3 (by simp)⟩)
        try simp only [Act.put, List.setIfInBounds_toArray, List.set_cons_zero, List.set_cons_succ, Nat.reduceAdd]
        first
          | (refine wpS_skip (by rfl) (by rfl) ?_; try simp only [Act.put, List.setIfInBounds_toArray, List.set_cons_zero, List.set_cons_succ, Nat.reduceAdd])
          | (refine wpS_val (v := ?_) HR (by rfl) (by rfl) ?_ ?_; rotate_left; · (intro w' hS; go_simp; first | done | with_reducible rfl)
             try simp only [Act.put, List.setIfInBounds_toArray, List.set_cons_zero, List.set_cons_succ, Nat.reduceAdd])
        refine wpS_done (by kernel_rfl) (fun w9 hS => ?_)
        go_wp2_with fail
        refine bodyPost_ret (v := .tuple #[.int .i64 a1, z.val, .bool true]) (results_blk3 Try.results41 _ w9 w.heap.size 26 _ _ rfl hS.2.1 Try.underlying26 rfl (by kernel_rfl)) rfl (HP.out a1 z true _ hye.out hS.1)
end Go.Proofs.Ytbmkfjgodgmjnaa
