/- The bus: First. -/
import Derived.Test.YtbmkfjgodgmjnaaD0
namespace Go.Proofs.Ytbmkfjgodgmjnaa
open Go.RowKit
set_option linter.unusedVariables false
set_option linter.unusedSimpArgs false
theorem results_blk3 {P : Program} {fn : Func} {p u v : Tmp} {ty : TypeId} (h : fn.results = #[.tmp v, .cell p ty, .tmp u]) (tmps : Array Value) (w : World) (g : Nat) (t : TypeId) (cs : Array Value) (d : TypeDesc)
    (hp : tmps.getD p undef = .pointer (some ⟨g, 0, none⟩)) (hg : Blk w g t cs) (hu : P.underlying ty = some d) (hd : (match d with | .struct _ | .array _ _ => true | _ => false) = true) (hi : (P.info? ty).map (·.size) = some cs.size) :
    (results fn tmps).run P w = .ok (.tuple #[tmps.getD v undef, .agg cs, tmps.getD u undef]) w := by
  have hp' : tmps[p]?.getD undef = .pointer (some ⟨g, 0, none⟩) := by simpa using hp
  simp only [results, h]
  simp [Sem.run_bind, Result.andThen, hp', asAddr, run_loadVar_row w g t ty cs (0, 0) d hg hu hd hi]
/-- What a node would send next. -/
def hd (s : Nat → Bx) : Option Nat → Fr × Bool
  | none => (Fr.none_, false)
  | some q => ((s q).tx.headD Fr.none_, !(s q).tx.isEmpty)
theorem node_next {Φ : Who} {B : Nat} {w : World} {D : Nat → Prop} {s : Nat → Bx} (h : Bxs Φ B w D s) (x : Option Nat) (hx : ∀ q, x = some q → D q) : Calls Try.prog 19 #[ptr x] w fun e w' => e = .returned (.tuple #[(hd s x).1.val, .bool (hd s x).2]) ∧ Below w.heap.size w w' := by
  cases x with
  | none => exact next_nil w
  | some q => exact next_hd (h q (hx q rfl)) rfl rfl
theorem hd_wf {Φ : Who} {B : Nat} {w : World} {D : Nat → Prop} {s : Nat → Bx} (h : Bxs Φ B w D s) (x : Option Nat) (hx : ∀ q, x = some q → D q) : (hd s x).1.wf := by
  have h0 : Fr.none_.wf := ⟨by decide, by decide, by decide, by decide, fun i => by simp [Fr.none_, Fr.g]⟩
  cases x with
  | none => exact h0
  | some q =>
    have := (h q (hx q rfl)).2.1.tw
    show ((s q).tx.headD Fr.none_).wf
    cases ht : (s q).tx with
    | nil => exact h0
    | cons f r => exact this f (by rw [ht]; simp)
/-- Of the first k nodes: which goes next, with what, and whether one does. -/
def fstK (L : List (Option Nat)) (s : Nat → Bx) : Nat → Nat × Fr × Bool
  | 0 => (0, Fr.none_, false)
  | k + 1 => match L[k]? with
    | none => fstK L s k
    | some x => if (hd s x).2 && (!(fstK L s k).2.2 || decide ((hd s x).1.rank < (fstK L s k).2.1.rank)) then (k, (hd s x).1, true) else fstK L s k
theorem fstK_wf {Φ : Who} {B : Nat} {w : World} {D : Nat → Prop} {s : Nat → Bx} (h : Bxs Φ B w D s) (L : List (Option Nat)) (hD : ∀ q, some q ∈ L → D q) : ∀ k, (fstK L s k).2.1.wf
  | 0 => (⟨by decide, by decide, by decide, by decide, fun i => by simp [Fr.none_, Fr.g]⟩ : Fr.none_.wf)
  | k + 1 => by
    unfold fstK
    split
    · exact fstK_wf h L hD k
    · next x hx =>
      split
      · exact hd_wf h x fun q hq => hD q (by subst hq; exact List.mem_of_getElem? hx)
      · exact fstK_wf h L hD k
theorem fstK_lt (L : List (Option Nat)) (s : Nat → Bx) : ∀ k, (fstK L s k).1 ≤ k ∧ ((fstK L s k).2.2 = true → (fstK L s k).1 < k)
  | 0 => ⟨Nat.le_refl _, fun h => by simp [fstK] at h⟩
  | k + 1 => by
    have := fstK_lt L s k
    unfold fstK
    split
    · exact ⟨by omega, fun h => by have := this.2 h; omega⟩
    · split
      · exact ⟨by dsimp only; omega, fun _ => by dsimp only; omega⟩
      · exact ⟨by omega, fun h => by have := this.2 h; omega⟩
/-- First's own blocks. -/
def FsP (w : World) (g : Nat) (x y : Fr) (w' : World) : Prop := Below w.heap.size w w' ∧ Blk w' w.heap.size 26 Fr.none_.cs.toArray ∧ Blk w' (w.heap.size + 1) 26 y.cs.toArray ∧ Blk w' g 26 x.cs.toArray
set_option maxHeartbeats 2000000 in
theorem first_any {Φ : Who} {B : Nat} {w : World} {D : Nat → Prop} {s : Nat → Bx} {L : List (Option Nat)} {A : Option Addr} {n c : Nat} (h : Bxs Φ B w D s) (hD : ∀ q, some q ∈ L → D q) (hr : Rd w w.heap.size A (ptrs L)) (hn : L.length = n) (hnc : n ≤ c) (hc : c ≤ maxLen) :
    Calls Try.prog 38 #[.slice A n c] w fun e w' => e = .returned (.tuple #[.int .i64 (fstK L s n).1, (fstK L s n).2.1.val, .bool (fstK L s n).2.2]) ∧ Below w.heap.size w w' := by
  unfold maxLen at hc
  have HN := Lib.hid hn
  have HH := Lib.hid h
  clear hn h
  go_enter Try.func38, Try.ntmps38
  go_upto_region 2 with fail
  refine wp_named fun W hW => ?_
  obtain ⟨B1, B2, hbW⟩ := blk2 (c1 := Fr.none_.cs.toArray) (c2 := Fr.none_.cs.toArray) hW
  clear hW
  go_wp2_with fail
  go_loopw [6, 7, 14] (fun av sv iv wr => ∃ (k : Nat), k ≤ n ∧ iv = .int .i64 k ∧ av = .int .i64 (fstK L s k).1 ∧ sv = .bool (fstK L s k).2.2 ∧ Below w.heap.size w wr ∧ Blk wr w.heap.size 26 Fr.none_.cs.toArray ∧ Blk wr (w.heap.size + 1) 26 (fstK L s k).2.1.cs.toArray) (fun _ _ iv _ => n - (intOf iv).toNat)
  case atStart => exact ⟨0, Nat.zero_le _, rfl, rfl, rfl, hbW, B1, B2⟩
  case round =>
    clear B1 B2 hbW
    obtain ⟨k, hk, rfl, rfl, rfl, hb, B1, B2⟩ := hrel
    have hzr := hb.size
    by_cases hlt : k < n
    · have hlt' : (k : Int) < n := by omega
      obtain ⟨x, hxk⟩ : ∃ x, L[k]? = some x := ⟨_, List.getElem?_eq_getElem (by rw [HN.out]; exact hlt)⟩
      obtain ⟨g, o, ea, hgl, hcl⟩ := hr.below hb (by intro h; have := ptrs_len L; rw [h, HN.out] at this; simp at this; omega)
      have hp := hcl k _ (ptrs_get hxk)
      subst ea
      have hDx : ∀ q, x = some q → D q := fun q hq => hD q (by subst hq; exact List.mem_of_getElem? hxk)
      have N1 := Lib.hid (node_next (HH.out.below hb) x hDx)
      have hyw := hd_wf HH.out x hDx
      have hbw := fstK_wf HH.out L hD k
      obtain ⟨y, hy⟩ : ∃ y, (hd s x).1 = y := ⟨_, rfl⟩
      obtain ⟨oy, hoy⟩ : ∃ y, (hd s x).2 = y := ⟨_, rfl⟩
      obtain ⟨a1, ha1⟩ : ∃ y, (fstK L s k).1 = y := ⟨_, rfl⟩
      obtain ⟨z, hz⟩ : ∃ y, (fstK L s k).2.1 = y := ⟨_, rfl⟩
      obtain ⟨oz, hoz⟩ : ∃ y, (fstK L s k).2.2 = y := ⟨_, rfl⟩
      have FJ : Hid (∀ (a2 : Nat) (z2 : Fr) (o2 : Bool) W', (if oy && (!oz || decide (y.rank < z.rank)) then (k, y, true) else (a1, z, oz)) = (a2, z2, o2) → Below w.heap.size w W' → Blk W' w.heap.size 26 Fr.none_.cs.toArray → Blk W' (w.heap.size + 1) 26 z2.cs.toArray → ∃ (k' : Nat), k' ≤ n ∧ Value.int .i64 ((k + 1 : Nat) : Int) = .int .i64 k' ∧ Value.int .i64 (a2 : Int) = .int .i64 (fstK L s k').1 ∧ Value.bool o2 = .bool (fstK L s k').2.2 ∧ Below w.heap.size w W' ∧ Blk W' w.heap.size 26 Fr.none_.cs.toArray ∧ Blk W' (w.heap.size + 1) 26 (fstK L s k').2.1.cs.toArray) := Lib.hid fun a2 z2 o2 W' h1 h2 h3 h4 => by
        have he : fstK L s (k + 1) = (a2, z2, o2) := by
          rw [fstK, hxk]
          dsimp only
          rw [hy, hoy, hz, hoz, h1.symm, ← ha1, ← hz, ← hoz]
        exact ⟨k + 1, by omega, rfl, by rw [he], by rw [he], h2, h3, by rw [he]; exact h4⟩
      rw [hy, hoy] at N1
      rw [hy] at hyw
      rw [hz] at hbw B2
      rw [ha1, hoz]
      have R1 := Lib.hid (fun w => rank_any y w hyw)
      have R2 := Lib.hid (fun w => rank_any z w hbw)
      obtain ⟨r1, hr1⟩ : ∃ r1, y.rank = r1 := ⟨_, rfl⟩
      obtain ⟨r2, hr2⟩ : ∃ r1, z.rank = r1 := ⟨_, rfl⟩
      rw [hr1] at R1 FJ
      rw [hr2] at R2 FJ
      have B1H := Lib.hid B1
      have B2H := Lib.hid B2
      clear hy hoy ha1 hz hoz hr1 hr2 hyw hbw hxk hcl B1 B2
      go_upto_region 6 with fail
      go_wp2_with fail
      refine N1.out.mono ?_
      rintro e w3 ⟨rfl, b3⟩
      go_upto_region 7 with fail
      refine wp_named fun W3 hW3 => ?_
      obtain ⟨BY, hbW3⟩ := blk1 (c1 := y.cs.toArray) hW3
      clear hW3 N1
      have b3W := b3.trans (hbW3.mono b3.size)
      have C1 := Lib.hid (B1H.out.below b3W)
      have C2 := Lib.hid (B2H.out.below b3W)
      have hb3 := hb.trans (b3W.mono hzr)
      have hz3 := hb3.size
      have hlt2 := C2.out.lt
      have RY := BY.rule
      have RZ := C2.out.rule
      have FK : Hid (∀ (a2 : Nat) (o2 : Bool) W', (if oy && (!oz || decide (r1 < r2)) then (k, y, true) else (a1, z, oz)) = (a2, z, o2) → Below W3.heap.size W3 W' → _) := Lib.hid fun a2 o2 W' h1 h2 => FJ.out a2 z o2 W' h1 (hb3.trans (h2.mono hz3)) (C1.out.below h2) (C2.out.below h2)
      clear hp
      go_wp2_with fail
      have hbq : w3.heap.size ≠ w.heap.size + 1 := by have := b3.size; have := B2H.out.lt; omega
      have hbq2 : w3.heap.size ≠ w.heap.size := by have := b3.size; have := B2H.out.lt; omega
      have HR : ∀ s w', (fun s w' => FsP w w3.heap.size y (if s = 0 then z else y) w') s w' → ∀ i, w'.cell? ⟨w3.heap.size, i, none⟩ = y.cs.toArray[i]? := fun s w' h => h.2.2.2.cell
      cases oy
      · refine wp_region_c (fun w' => Below W3.heap.size W3 w') (by kernel_rfl) (by kernel_rfl) ((Below.refl _ _).drew) ?_
        repeat (first
          | (refine wpL_skip (by rfl) ?_; try simp only [Act.put, List.setIfInBounds_toArray, List.set_cons_zero, List.set_cons_succ, Nat.reduceAdd])
          | (refine wpL_val (v := ?_) (by rfl) ?_ ?_; rotate_left; · (intro w' hS; go_simp; first | done | with_reducible rfl)
             try simp only [Act.put, List.setIfInBounds_toArray, List.set_cons_zero, List.set_cons_succ, Nat.reduceAdd]))
        refine wpL_done (fun w8 hS => ?_)
        go_wp2_with fail
        go_roundw
        case rel => exact FK.out a1 oz _ (by simp) hS
        case measure => simp [intOf]; omega
      · cases oz
        · refine wp_region_c (fun w' => Below W3.heap.size W3 w') (by kernel_rfl) (by kernel_rfl) ((Below.refl _ _).drew) ?_
          repeat (first
            | (refine wpL_skip (by rfl) ?_; try simp only [Act.put, List.setIfInBounds_toArray, List.set_cons_zero, List.set_cons_succ, Nat.reduceAdd])
            | (refine wpL_val (v := ?_) (by rfl) ?_ ?_; rotate_left; · (intro w' hS; go_simp; first | done | with_reducible rfl)
               try simp only [Act.put, List.setIfInBounds_toArray, List.set_cons_zero, List.set_cons_succ, Nat.reduceAdd]))
          refine wpL_done (fun w8 hS => ?_)
          go_wp2_with fail
          refine wp_region_s [3] (fun s w' => FsP w w3.heap.size y (if s = 0 then z else y) w') (by kernel_rfl) (by kernel_rfl) (⟨(hb3.trans (hS.mono hz3)).drew, (C1.out.below hS).drew, (C2.out.below hS).drew, (BY.below hS).drew⟩) ?_
          first
            | (refine wpS_skip (by rfl) (by rfl) ?_; try simp only [Act.put, List.setIfInBounds_toArray, List.set_cons_zero, List.set_cons_succ, Nat.reduceAdd])
            | (refine wpS_val (v := ?_) HR (by rfl) (by rfl) ?_ ?_; rotate_left; · (intro w' hS; go_simp; first | done | with_reducible rfl)
               try simp only [Act.put, List.setIfInBounds_toArray, List.set_cons_zero, List.set_cons_succ, Nat.reduceAdd])
          first
            | (refine wpS_skip (by rfl) (by rfl) ?_; try simp only [Act.put, List.setIfInBounds_toArray, List.set_cons_zero, List.set_cons_succ, Nat.reduceAdd])
            | (refine wpS_val (v := ?_) HR (by rfl) (by rfl) ?_ ?_; rotate_left; · (intro w' hS; go_simp; first | done | with_reducible rfl)
               try simp only [Act.put, List.setIfInBounds_toArray, List.set_cons_zero, List.set_cons_succ, Nat.reduceAdd])
          first
            | (refine wpS_skip (by rfl) (by rfl) ?_; try simp only [Act.put, List.setIfInBounds_toArray, List.set_cons_zero, List.set_cons_succ, Nat.reduceAdd])
            | (refine wpS_val (v := ?_) HR (by rfl) (by rfl) ?_ ?_; rotate_left; · (intro w' hS; go_simp; first | done | with_reducible rfl)
               try simp only [Act.put, List.setIfInBounds_toArray, List.set_cons_zero, List.set_cons_succ, Nat.reduceAdd])
          refine wpS_step (v := undef) 0 (by kernel_rfl) rfl (by intro p hp; first | omega | (obtain rfl : p = 0 := (by omega); exact ⟨_, rfl, by kernel_rfl⟩)) (of_decide_eq_true (by kernel_rfl)) (fun w' hS => .inl ⟨by rfl, ?_⟩) (fun _ => rfl) ?_
          · have hS' : FsP w w3.heap.size y z w' := hS
            obtain ⟨p1, p2, p3, p4⟩ := hS'
            refine wp_storeB 26 (.tmp 5) (.tmp 37) rfl (w.heap.size + 1) 26 z.cs.toArray y.cs.toArray rfl rfl p3 rfl (by kernel_rfl) (by simp [Value.oneCell']) (fun w'' h2 h3 => ⟨rfl, bel_grown p1 h3 (by omega), p2.grown h3 (by simp), h2, p4.grown h3 (by simp; omega)⟩)
          try simp only [Act.put, List.setIfInBounds_toArray, List.set_cons_zero, List.set_cons_succ, Nat.reduceAdd]
          first
            | (refine wpS_skip (by rfl) (by rfl) ?_; try simp only [Act.put, List.setIfInBounds_toArray, List.set_cons_zero, List.set_cons_succ, Nat.reduceAdd])
            | (refine wpS_val (v := ?_) HR (by rfl) (by rfl) ?_ ?_; rotate_left; · (intro w' hS; go_simp; first | done | with_reducible rfl)
               try simp only [Act.put, List.setIfInBounds_toArray, List.set_cons_zero, List.set_cons_succ, Nat.reduceAdd])
          refine wpS_done (by kernel_rfl) (fun w9 hS => ?_)
          go_wp2_with fail
          go_roundw
          case rel => exact FJ.out k y true _ (by simp) hS.1 hS.2.1 hS.2.2.1
          case measure => simp [intOf]; omega
        · by_cases hrr : r1 < r2
          · have hd1 : decide (r1 < r2) = true := decide_eq_true hrr
            refine wp_region_c (fun w' => Below W3.heap.size W3 w') (by kernel_rfl) (by kernel_rfl) ((Below.refl _ _).drew) ?_
            repeat (first
              | (refine wpL_skip (by rfl) ?_; try simp only [Act.put, List.setIfInBounds_toArray, List.set_cons_zero, List.set_cons_succ, Nat.reduceAdd])
              | (refine wpL_val (v := ?_) (by rfl) ?_ ?_; rotate_left; · (intro w' hS; go_simp; first | done | with_reducible rfl)
                 try simp only [Act.put, List.setIfInBounds_toArray, List.set_cons_zero, List.set_cons_succ, Nat.reduceAdd])
              | (refine wpL_call (v := ?_) (f := ?_) (args := ?_) (by rfl) ?_ ?_ ?_; rotate_left 3
                 · (intro w' hS; go_simp; first | done | (refine ⟨?_, ?_⟩ <;> with_reducible rfl) | with_reducible rfl)
                 · (intro w' hS; first
                     | ((with_reducible refine (R1.out _).mono ?_); rintro e w2 ⟨rfl, hb⟩; refine ⟨?_, bel2 hS hb⟩; with_reducible rfl)
                     | ((with_reducible refine (R2.out _).mono ?_); rintro e w2 ⟨rfl, hb⟩; refine ⟨?_, bel2 hS hb⟩; with_reducible rfl))
                 try simp only [Act.put, List.setIfInBounds_toArray, List.set_cons_zero, List.set_cons_succ, Nat.reduceAdd]))
            refine wpL_done (fun w8 hS => ?_)
            go_wp2_with fail
            refine wp_region_s [3] (fun s w' => FsP w w3.heap.size y (if s = 0 then z else y) w') (by kernel_rfl) (by kernel_rfl) (⟨(hb3.trans (hS.mono hz3)).drew, (C1.out.below hS).drew, (C2.out.below hS).drew, (BY.below hS).drew⟩) ?_
            first
              | (refine wpS_skip (by rfl) (by rfl) ?_; try simp only [Act.put, List.setIfInBounds_toArray, List.set_cons_zero, List.set_cons_succ, Nat.reduceAdd])
              | (refine wpS_val (v := ?_) HR (by rfl) (by rfl) ?_ ?_; rotate_left; · (intro w' hS; go_simp; first | done | with_reducible rfl)
                 try simp only [Act.put, List.setIfInBounds_toArray, List.set_cons_zero, List.set_cons_succ, Nat.reduceAdd])
            first
              | (refine wpS_skip (by rfl) (by rfl) ?_; try simp only [Act.put, List.setIfInBounds_toArray, List.set_cons_zero, List.set_cons_succ, Nat.reduceAdd])
              | (refine wpS_val (v := ?_) HR (by rfl) (by rfl) ?_ ?_; rotate_left; · (intro w' hS; go_simp; first | done | with_reducible rfl)
                 try simp only [Act.put, List.setIfInBounds_toArray, List.set_cons_zero, List.set_cons_succ, Nat.reduceAdd])
            first
              | (refine wpS_skip (by rfl) (by rfl) ?_; try simp only [Act.put, List.setIfInBounds_toArray, List.set_cons_zero, List.set_cons_succ, Nat.reduceAdd])
              | (refine wpS_val (v := ?_) HR (by rfl) (by rfl) ?_ ?_; rotate_left; · (intro w' hS; go_simp; first | done | with_reducible rfl)
                 try simp only [Act.put, List.setIfInBounds_toArray, List.set_cons_zero, List.set_cons_succ, Nat.reduceAdd])
            refine wpS_step (v := undef) 0 (by kernel_rfl) rfl (by intro p hp; first | omega | (obtain rfl : p = 0 := (by omega); exact ⟨_, rfl, by kernel_rfl⟩)) (of_decide_eq_true (by kernel_rfl)) (fun w' hS => .inl ⟨by rfl, ?_⟩) (fun _ => rfl) ?_
            · have hS' : FsP w w3.heap.size y z w' := hS
              obtain ⟨p1, p2, p3, p4⟩ := hS'
              refine wp_storeB 26 (.tmp 5) (.tmp 37) rfl (w.heap.size + 1) 26 z.cs.toArray y.cs.toArray rfl rfl p3 rfl (by kernel_rfl) (by simp [Value.oneCell']) (fun w'' h2 h3 => ⟨rfl, bel_grown p1 h3 (by omega), p2.grown h3 (by simp), h2, p4.grown h3 (by simp; omega)⟩)
            try simp only [Act.put, List.setIfInBounds_toArray, List.set_cons_zero, List.set_cons_succ, Nat.reduceAdd]
            first
              | (refine wpS_skip (by rfl) (by rfl) ?_; try simp only [Act.put, List.setIfInBounds_toArray, List.set_cons_zero, List.set_cons_succ, Nat.reduceAdd])
              | (refine wpS_val (v := ?_) HR (by rfl) (by rfl) ?_ ?_; rotate_left; · (intro w' hS; go_simp; first | done | with_reducible rfl)
                 try simp only [Act.put, List.setIfInBounds_toArray, List.set_cons_zero, List.set_cons_succ, Nat.reduceAdd])
            refine wpS_done (by kernel_rfl) (fun w9 hS => ?_)
            go_wp2_with fail
            go_roundw
            case rel => exact FJ.out k y true _ (by simp [hrr]) hS.1 hS.2.1 hS.2.2.1
            case measure => simp [intOf]; omega
          · have hd1 : decide (r1 < r2) = false := decide_eq_false hrr
            refine wp_region_c (fun w' => Below W3.heap.size W3 w') (by kernel_rfl) (by kernel_rfl) ((Below.refl _ _).drew) ?_
            repeat (first
              | (refine wpL_skip (by rfl) ?_; try simp only [Act.put, List.setIfInBounds_toArray, List.set_cons_zero, List.set_cons_succ, Nat.reduceAdd])
              | (refine wpL_val (v := ?_) (by rfl) ?_ ?_; rotate_left; · (intro w' hS; go_simp; first | done | with_reducible rfl)
                 try simp only [Act.put, List.setIfInBounds_toArray, List.set_cons_zero, List.set_cons_succ, Nat.reduceAdd])
              | (refine wpL_call (v := ?_) (f := ?_) (args := ?_) (by rfl) ?_ ?_ ?_; rotate_left 3
                 · (intro w' hS; go_simp; first | done | (refine ⟨?_, ?_⟩ <;> with_reducible rfl) | with_reducible rfl)
                 · (intro w' hS; first
                     | ((with_reducible refine (R1.out _).mono ?_); rintro e w2 ⟨rfl, hb⟩; refine ⟨?_, bel2 hS hb⟩; with_reducible rfl)
                     | ((with_reducible refine (R2.out _).mono ?_); rintro e w2 ⟨rfl, hb⟩; refine ⟨?_, bel2 hS hb⟩; with_reducible rfl))
                 try simp only [Act.put, List.setIfInBounds_toArray, List.set_cons_zero, List.set_cons_succ, Nat.reduceAdd]))
            refine wpL_done (fun w8 hS => ?_)
            go_wp2_with fail
            go_roundw
            case rel => exact FK.out a1 true _ (by simp [hrr]) hS
            case measure => simp [intOf]; omega
    · obtain rfl : k = n := by omega
      obtain ⟨a1, ha1⟩ : ∃ y, (fstK L s k).1 = y := ⟨_, rfl⟩
      obtain ⟨z, hz⟩ : ∃ y, (fstK L s k).2.1 = y := ⟨_, rfl⟩
      obtain ⟨oz, hoz⟩ : ∃ y, (fstK L s k).2.2 = y := ⟨_, rfl⟩
      rw [hz] at B2
      rw [ha1, hoz]
      have hlt2 := B2.lt
      have BH := Lib.hid (show FsP w (w.heap.size + 1) z z wr from ⟨hb, B1, B2, B2⟩)
      have HP : Hid (∀ w', Below w.heap.size w w' → (Ending.returned (.tuple #[.int .i64 a1, z.val, .bool oz]) = .returned (.tuple #[.int .i64 (fstK L s k).1, (fstK L s k).2.1.val, .bool (fstK L s k).2.2])) ∧ Below w.heap.size w w') := Lib.hid fun w' h => ⟨by rw [ha1, hz, hoz], h⟩
      have HR : ∀ s w', (fun s w' => Below w.heap.size w w' ∧ Blk w' w.heap.size 26 (if s = 0 then Fr.none_ else z).cs.toArray ∧ Blk w' (w.heap.size + 1) 26 z.cs.toArray) s w' → ∀ i, w'.cell? ⟨w.heap.size + 1, i, none⟩ = z.cs.toArray[i]? := fun s w' h => h.2.2.cell
      clear ha1 hz hoz B1 B2
      go_wp2_with fail
      refine wp_region_s [4] (fun s w' => Below w.heap.size w w' ∧ Blk w' w.heap.size 26 (if s = 0 then Fr.none_ else z).cs.toArray ∧ Blk w' (w.heap.size + 1) 26 z.cs.toArray) (by kernel_rfl) (by kernel_rfl) (⟨hb.drew, BH.out.2.1.drew, BH.out.2.2.1.drew⟩) ?_
      first
        | (refine wpS_skip (by rfl) (by rfl) ?_; try simp only [Act.put, List.setIfInBounds_toArray, List.set_cons_zero, List.set_cons_succ, Nat.reduceAdd])
        | (refine wpS_val (v := ?_) HR (by rfl) (by rfl) ?_ ?_; rotate_left; · (intro w' hS; go_simp; first | done | with_reducible rfl)
           try simp only [Act.put, List.setIfInBounds_toArray, List.set_cons_zero, List.set_cons_succ, Nat.reduceAdd])
      first
        | (refine wpS_skip (by rfl) (by rfl) ?_; try simp only [Act.put, List.setIfInBounds_toArray, List.set_cons_zero, List.set_cons_succ, Nat.reduceAdd])
        | (refine wpS_val (v := ?_) HR (by rfl) (by rfl) ?_ ?_; rotate_left; · (intro w' hS; go_simp; first | done | with_reducible rfl)
           try simp only [Act.put, List.setIfInBounds_toArray, List.set_cons_zero, List.set_cons_succ, Nat.reduceAdd])
      first
        | (refine wpS_skip (by rfl) (by rfl) ?_; try simp only [Act.put, List.setIfInBounds_toArray, List.set_cons_zero, List.set_cons_succ, Nat.reduceAdd])
        | (refine wpS_val (v := ?_) HR (by rfl) (by rfl) ?_ ?_; rotate_left; · (intro w' hS; go_simp; first | done | with_reducible rfl)
           try simp only [Act.put, List.setIfInBounds_toArray, List.set_cons_zero, List.set_cons_succ, Nat.reduceAdd])
      first
        | (refine wpS_skip (by rfl) (by rfl) ?_; try simp only [Act.put, List.setIfInBounds_toArray, List.set_cons_zero, List.set_cons_succ, Nat.reduceAdd])
        | (refine wpS_val (v := ?_) HR (by rfl) (by rfl) ?_ ?_; rotate_left; · (intro w' hS; go_simp; first | done | with_reducible rfl)
           try simp only [Act.put, List.setIfInBounds_toArray, List.set_cons_zero, List.set_cons_succ, Nat.reduceAdd])
      refine wpS_step (v := undef) 0 (by kernel_rfl) rfl (by intro p hp; first | omega | (obtain rfl : p = 0 := (by omega); exact ⟨_, rfl, by kernel_rfl⟩)) (of_decide_eq_true (by kernel_rfl)) (fun w' hS => .inl ⟨by rfl, ?_⟩) (fun _ => rfl) ?_
      · have hS' : Below w.heap.size w w' ∧ Blk w' w.heap.size 26 Fr.none_.cs.toArray ∧ Blk w' (w.heap.size + 1) 26 z.cs.toArray := hS
        obtain ⟨p1, p2, p3⟩ := hS'
        refine wp_storeB 26 (.tmp 3) (.tmp 40) rfl w.heap.size 26 Fr.none_.cs.toArray z.cs.toArray rfl rfl p2 rfl (by kernel_rfl) (by simp [Value.oneCell']) (fun w'' h2 h3 => ⟨rfl, bel_grown p1 h3 (Nat.le_refl _), h2, p3.grown h3 (by simp)⟩)
      try simp only [Act.put, List.setIfInBounds_toArray, List.set_cons_zero, List.set_cons_succ, Nat.reduceAdd]
      first
        | (refine wpS_skip (by rfl) (by rfl) ?_; try simp only [Act.put, List.setIfInBounds_toArray, List.set_cons_zero, List.set_cons_succ, Nat.reduceAdd])
        | (refine wpS_val (v := ?_) HR (by rfl) (by rfl) ?_ ?_; rotate_left; · (intro w' hS; go_simp; first | done | with_reducible rfl)
           try simp only [Act.put, List.setIfInBounds_toArray, List.set_cons_zero, List.set_cons_succ, Nat.reduceAdd])
      refine wpS_done (by kernel_rfl) (fun w9 hS => ?_)
      go_wp2_with fail
      refine bodyPost_ret (v := .tuple #[.int .i64 a1, z.val, .bool oz]) (results_blk3 Try.results38 _ w9 w.heap.size 26 _ _ rfl hS.2.1 Try.underlying26 rfl (by kernel_rfl)) rfl (HP.out _ hS.1)
end Go.Proofs.Ytbmkfjgodgmjnaa
