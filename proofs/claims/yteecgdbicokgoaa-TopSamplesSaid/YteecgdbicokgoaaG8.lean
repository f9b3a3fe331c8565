/- Daq: SetMode, StartAll. -/
import Derived.Test.YteecgdbicokgoaaG7
namespace Go.Proofs.Yteecgdbicokgoaa
open Go.RowKit
set_option linter.unusedVariables false
set_option linter.unusedSimpArgs false
set_option maxRecDepth 100000
/-- A Daq that is being changed, and the command beside it. -/
structure DSC (Φ : Who) (B q evs step : Nat) (A0 : Option Addr) (c0 : Nat) (cl : List Lc) (P : Option Addr) (pt : Option (Nat × Nat × Nat)) (w0 : World) (gc : Nat) (c : Cm) (w : World) : Prop where
  d : DS Φ B q evs step A0 c0 cl P pt w0 w
  c : BlC Φ (0, 9) w gc 35 c.cs.toArray
section
variable {Φ : Who} {B q evs step c0 gc : Nat} {A0 P : Option Addr} {cl : List Lc} {pt : Option (Nat × Nat × Nat)} {w0 w w' : World} {c : Cm}
theorem DSC.below (h : DSC Φ B q evs step A0 c0 cl P pt w0 gc c w) (hb : Below w.heap.size w w') : DSC Φ B q evs step A0 c0 cl P pt w0 gc c w' := ⟨h.d.below hb, h.c.below hb⟩
theorem DSC.setL {g o : Nat} (h : DSC Φ B q evs step (some ⟨g, o, none⟩) c0 cl P pt w0 gc c w) {i : Nat} {x x' : Lc} (hx : cl[i]? = some x) {j : Nat} {cs : List Value} (hj : j + cs.length ≤ 8) (hc : x'.cs = putL x.cs j cs) (he : x'.A = x.A ∧ x'.c = x.c ∧ x'.tabs = x.tabs)
    (ho : Own w' B 71 8 (some ⟨g, o, none⟩) cl.length c0 (putL (lcells cl) (i * 8 + j) cs)) (hg : w.grownBy w' (some g)) : DSC Φ B q evs step (some ⟨g, o, none⟩) c0 (cl.set i x') P pt w0 gc c w' := by
  obtain ⟨h1, h2⟩ := h.d.x.setL h.d.e.nu rfl hx hj hc he ho hg
  exact ⟨⟨h1, h.d.e.trans h2⟩, h.c.ext h2 (SdD.no _ _ (by decide) (by decide))⟩
theorem DSC.cells (h : DSC Φ B q evs step A0 c0 cl P pt w0 gc c w) : ∀ i, w.cell? ⟨gc, i, none⟩ = c.cs.toArray[i]? := h.c.1.cell
/-- Behind the box of a command. -/
theorem DSC.box {a : Dq} (h : DXc Φ B w q evs step A0 c0 cl P pt) (hN : Nu Φ w) (c : Cm) : DSC Φ B q evs step A0 c0 cl P pt w w.heap.size c (w.alloc (.cells c.cs.toArray 35)) :=
  ⟨⟨h.below (bl1 w _), Ext.of_below hN (bl1 w _)⟩, Blk.new _ _ _, hN _ (Nat.le_refl _)⟩
/-- One list is another one now, of the same tables. -/
theorem set_abs (cl : List Lc) (i : Nat) (x : Lc) : abs (cl.set i x) = (abs cl).set i x.ab := by
  unfold abs
  rw [List.map_set]
theorem set_map {α β : Type} (f : α → β) : ∀ (l : List α) (i : Nat) (x y : α), l[i]? = some x → f y = f x → (l.set i y).map f = l.map f
  | [], i, x, y, h, _ => by simp at h
  | z :: l, 0, x, y, h, e => by simp at h; subst h; simp [e]
  | z :: l, i + 1, x, y, h, e => by rw [List.set_cons_succ, List.map_cons, List.map_cons, set_map f l i x y (by simpa using h) e]
end
def modeL (x : Ls) (stim : Bool) (ev pre pri : Int) : Ls := { x with stim := stim, ev := ev, pre := pre, pri := pri }
/-- SetMode. -/
def modeX (a : Dq) (c : Cm) : Dq × Int :=
  match a.ls[c.a0.toNat]? with
  | none => (a, 1)
  | some x => if 1 < c.a1 ∨ (a.evs : Int) ≤ c.a2 ∨ c.a3 = 0 then (a, 1) else if x.on then (a, 110) else ({ a with ls := a.ls.set c.a0.toNat (modeL x (c.a1 == 1) c.a2 c.a3 c.a4) }, 0)
set_option maxRecDepth 100000 in
set_option maxHeartbeats 8000000 in
theorem mode_any {Φ : Who} {B q : Nat} {w : World} {a : Dq} (h : DX Φ B w q a) (hN : Nu Φ w) (c : Cm) (hc : c.wf) : Calls Try.prog 97 #[.pointer (some ⟨q, 0, none⟩), c.val] w (AnsP Φ B w q (modeX a c).1 [] (modeX a c).2) := by
  have HD := Lib.hid h
  have HN := Lib.hid hN
  obtain ⟨hok, A0, c0, cl, P, hab, hX⟩ := h
  have HOK := Lib.hid hok
  have HAB := Lib.hid hab
  obtain ⟨i, hi⟩ : ∃ i : Nat, c.a0 = i := ⟨c.a0.toNat, by have := hc.h0.1; omega⟩
  have hi256 : i < 256 := by have := hc.h0.2; omega
  have hit : c.a0.toNat = i := by omega
  have h1a := hc.h1.1
  have h2a := hc.h2.1
  have h2b := hc.h2.2
  have hw2 : IntKind.i64.wrap c.a2 = c.a2 := IntWalk.i64_in _ (by omega)
  have hb := bl1 w (.cells c.cs.toArray 35)
  have C0 := Lib.hid (DSC.box (a := a) hX hN c)
  have HM : Hid (∀ r : Dq × Int, modeX a c = r → ∀ e w', AnsP Φ B w q r.1 [] r.2 e w' → AnsP Φ B w q (modeX a c).1 [] (modeX a c).2 e w') := Lib.hid fun r h e w' h2 => by rw [h]; exact h2
  have hevs := hok.e4
  have heI : (a.evs : Int) ≤ 4 := by omega
  have HI := Lib.hid hi
  by_cases hil : i < cl.length
  · obtain ⟨x, hx⟩ : ∃ x, cl[i]? = some x := ⟨_, List.getElem?_eq_getElem hil⟩
    obtain ⟨g, o, rfl⟩ := hX.ad hil
    have L := Lib.hid (list_yes (hX.below hb) rfl hil hi256)
    have hax : a.ls[c.a0.toNat]? = some x.ab := by rw [hit, ← hab]; exact abs_get hx
    have HME : Hid (modeX a c = if 1 < c.a1 ∨ (a.evs : Int) ≤ c.a2 ∨ c.a3 = 0 then (a, 1) else if x.on then (a, 110) else ({ a with ls := a.ls.set i (modeL x.ab (c.a1 == 1) c.a2 c.a3 c.a4) }, 0)) := Lib.hid (by
      unfold modeX
      rw [hax, hit]
      rfl)
    have RC := C0.out.c.1.rule
    have RD := C0.out.d.x.blk.rule
    have hXb := hX.below hb
    have ron := hXb.lcell rfl hx 6 _ rfl
    have hiI : (i : Int) < cl.length := by omega
    have hnn : cl.length ≤ 4 := by have h4 := hok.n4; rw [← hab, abs_len] at h4; exact h4
    have HX := Lib.hid hx
    clear hX hXb hax hx hok hab hN hit hi
    go_enter Try.func97, Try.ntmps97
    go_upto_region 1 with fail
    refine wp_named fun W hW => ?_
    have C1 : DSC Φ B q a.evs a.step (some ⟨g, o, none⟩) c0 (cl.set i x) P a.ptr w w.heap.size c W := by subst hW; rw [set_same HX.out]; exact C0.out
    have hbW : Below w.heap.size w W := by subst hW; exact hb
    have L : Calls Try.prog 119 #[.pointer (some ⟨q, 0, none⟩), .int .u8 i] W fun e w' => e = .returned (.pointer (some ⟨g, o + i * 8, none⟩)) ∧ W = w' := by subst hW; exact L.out
    have ron : W.cell? ⟨g, o + i * 8 + 6, none⟩ = some (.bool x.on) := by subst hW; exact ron
    have RC : ∀ w', Below W.heap.size W w' → ∀ i, w'.cell? ⟨w.heap.size, i, none⟩ = c.cs.toArray[i]? := by subst hW; exact RC
    have RD : ∀ w', Below W.heap.size W w' → ∀ i, w'.cell? ⟨q, i, none⟩ = (#[.int .i64 a.evs, .int .i64 a.step, .slice (some ⟨g, o, none⟩) cl.length c0, .pointer P] : Array Value)[i]? := by subst hW; exact RD
    have hgl : g < W.heap.size := (C1.d.x.row.1.lt (g := g) rfl).2
    have hcc := RC W (Below.refl _ _)
    have hi := HI.out
    clear hW
    have L := Lib.hid L
    go_wp2_with fail
    refine L.out.mono ?_
    rintro e w' ⟨rfl, rfl⟩
    clear L hcc
    go_wp2_with fail
    by_cases h1 : 1 < c.a1
    · have d1 : decide (1 < c.a1) = true := decide_eq_true h1
      have FF := Lib.hid (fun w' (hb2 : Below W.heap.size W w') => HM.out (a, 1) (by rw [HME.out, if_pos (.inl h1)]) _ w' (AnsP.stay (E := 1) HD.out HN.out (hbW.trans (hb2.mono hbW.size))))
      refine wp_region_c (fun w' => Below W.heap.size W w') (by kernel_rfl) (by kernel_rfl) ((Below.refl _ _).drew) ?_
      repeat (first
        | (refine wpL_skip (by rfl) ?_; try simp only [Act.put, List.setIfInBounds_toArray, List.set_cons_zero, List.set_cons_succ, Nat.reduceAdd])
        | (refine wpL_val (v := ?_) (by rfl) ?_ ?_; rotate_left; · (intro w' hS; go_simp; first | done | with_reducible rfl)
           try simp only [Act.put, List.setIfInBounds_toArray, List.set_cons_zero, List.set_cons_succ, Nat.reduceAdd]))
      refine wpL_done (fun w9 hS => ?_)
      go_wp2_with fail
      go_ret2
      exact FF.out w9 hS
    · have d1 : decide (1 < c.a1) = false := decide_eq_false h1
      by_cases h2 : (a.evs : Int) ≤ c.a2
      · have d2 : decide ((a.evs : Int) ≤ c.a2) = true := decide_eq_true h2
        have FF := Lib.hid (fun w' (hb2 : Below W.heap.size W w') => HM.out (a, 1) (by rw [HME.out, if_pos (.inr (.inl h2))]) _ w' (AnsP.stay (E := 1) HD.out HN.out (hbW.trans (hb2.mono hbW.size))))
        refine wp_region_c (fun w' => Below W.heap.size W w') (by kernel_rfl) (by kernel_rfl) ((Below.refl _ _).drew) ?_
        repeat (first
          | (refine wpL_skip (by rfl) ?_; try simp only [Act.put, List.setIfInBounds_toArray, List.set_cons_zero, List.set_cons_succ, Nat.reduceAdd])
          | (refine wpL_val (v := ?_) (by rfl) ?_ ?_; rotate_left; · (intro w' hS; go_simp; first | done | with_reducible rfl)
             try simp only [Act.put, List.setIfInBounds_toArray, List.set_cons_zero, List.set_cons_succ, Nat.reduceAdd]))
        refine wpL_done (fun w9 hS => ?_)
        go_wp2_with fail
        go_ret2
        exact FF.out w9 hS
      · have d2 : decide ((a.evs : Int) ≤ c.a2) = false := decide_eq_false h2
        by_cases h3 : c.a3 = 0
        · have d3 : (c.a3 == 0) = true := by rw [h3]; rfl
          have FF := Lib.hid (fun w' (hb2 : Below W.heap.size W w') => HM.out (a, 1) (by rw [HME.out, if_pos (.inr (.inr h3))]) _ w' (AnsP.stay (E := 1) HD.out HN.out (hbW.trans (hb2.mono hbW.size))))
          refine wp_region_c (fun w' => Below W.heap.size W w') (by kernel_rfl) (by kernel_rfl) ((Below.refl _ _).drew) ?_
          repeat (first
            | (refine wpL_skip (by rfl) ?_; try simp only [Act.put, List.setIfInBounds_toArray, List.set_cons_zero, List.set_cons_succ, Nat.reduceAdd])
            | (refine wpL_val (v := ?_) (by rfl) ?_ ?_; rotate_left; · (intro w' hS; go_simp; first | done | with_reducible rfl)
               try simp only [Act.put, List.setIfInBounds_toArray, List.set_cons_zero, List.set_cons_succ, Nat.reduceAdd]))
          refine wpL_done (fun w9 hS => ?_)
          go_wp2_with fail
          go_ret2
          exact FF.out w9 hS
        · have d3 : (c.a3 == 0) = false := beq_eq_false_iff_ne.2 h3
          have hno : ¬ (1 < c.a1 ∨ (a.evs : Int) ≤ c.a2 ∨ c.a3 = 0) := fun hh => by
            rcases hh with hh | hh | hh
            · exact h1 hh
            · exact h2 hh
            · exact h3 hh
          have HNO := Lib.hid hno
          refine wp_region_c (fun w' => Below W.heap.size W w') (by kernel_rfl) (by kernel_rfl) ((Below.refl _ _).drew) ?_
          repeat (first
            | (refine wpL_skip (by rfl) ?_; try simp only [Act.put, List.setIfInBounds_toArray, List.set_cons_zero, List.set_cons_succ, Nat.reduceAdd])
            | (refine wpL_val (v := ?_) (by rfl) ?_ ?_; rotate_left; · (intro w' hS; go_simp; first | done | with_reducible rfl)
               try simp only [Act.put, List.setIfInBounds_toArray, List.set_cons_zero, List.set_cons_succ, Nat.reduceAdd]))
          refine wpL_done (fun w9 hS => ?_)
          have ron9 : w9.cell? ⟨g, o + i * 8 + 6, none⟩ = some (.bool x.on) := (hS.cell (p := ⟨g, o + i * 8 + 6, none⟩) hgl).trans ron
          have C9 := Lib.hid (C1.below hS)
          have hb9 := hbW.trans (hS.mono hbW.size)
          obtain ⟨on, hon⟩ : ∃ on, x.on = on := ⟨_, rfl⟩
          rw [hon] at HME ron9
          clear hS hno ron
          cases on with
          | true =>
            have FF := Lib.hid (HM.out (a, 110) (by rw [HME.out, if_neg HNO.out]; rfl) _ w9 (AnsP.stay (E := 110) HD.out HN.out hb9))
            go_wp2_with fail
            go_ret2
            exact FF.out
          | false =>
            have hiL : i < cl.length := hil
            have RC9 : ∀ j w', (fun j w' => DSC Φ B q a.evs a.step (some ⟨g, o, none⟩) c0 (cl.set i (if j = 0 then x else if j = 1 then { x with stim := (c.a1 == 1) } else if j = 2 then { x with stim := (c.a1 == 1), ev := c.a2 } else if j = 3 then { x with stim := (c.a1 == 1), ev := c.a2, pre := c.a3 } else { x with stim := (c.a1 == 1), ev := c.a2, pre := c.a3, pri := c.a4 })) P a.ptr w w.heap.size c w') j w' → (∀ i, w'.cell? ⟨w.heap.size, i, none⟩ = c.cs.toArray[i]?) := fun j w' h => h.cells
            go_wp2_with fail
            refine wp_region_s [19, 22, 25, 28] (fun j w' => DSC Φ B q a.evs a.step (some ⟨g, o, none⟩) c0 (cl.set i (if j = 0 then x else if j = 1 then { x with stim := (c.a1 == 1) } else if j = 2 then { x with stim := (c.a1 == 1), ev := c.a2 } else if j = 3 then { x with stim := (c.a1 == 1), ev := c.a2, pre := c.a3 } else { x with stim := (c.a1 == 1), ev := c.a2, pre := c.a3, pri := c.a4 })) P a.ptr w w.heap.size c w') (by kernel_rfl) (by kernel_rfl) (C9.out.below (Below.refl _ _).drew) ?_
            first
              | (refine wpS_skip (by rfl) (by rfl) ?_; try simp only [Act.put, List.setIfInBounds_toArray, List.set_cons_zero, List.set_cons_succ, Nat.reduceAdd])
              | (refine wpS_val (v := ?_) RC9 (by rfl) (by rfl) ?_ ?_; rotate_left; · (intro w' hS; go_simp; first | done | with_reducible rfl)
                 try simp only [Act.put, List.setIfInBounds_toArray, List.set_cons_zero, List.set_cons_succ, Nat.reduceAdd])
            first
              | (refine wpS_skip (by rfl) (by rfl) ?_; try simp only [Act.put, List.setIfInBounds_toArray, List.set_cons_zero, List.set_cons_succ, Nat.reduceAdd])
              | (refine wpS_val (v := ?_) RC9 (by rfl) (by rfl) ?_ ?_; rotate_left; · (intro w' hS; go_simp; first | done | with_reducible rfl)
                 try simp only [Act.put, List.setIfInBounds_toArray, List.set_cons_zero, List.set_cons_succ, Nat.reduceAdd])
            first
              | (refine wpS_skip (by rfl) (by rfl) ?_; try simp only [Act.put, List.setIfInBounds_toArray, List.set_cons_zero, List.set_cons_succ, Nat.reduceAdd])
              | (refine wpS_val (v := ?_) RC9 (by rfl) (by rfl) ?_ ?_; rotate_left; · (intro w' hS; go_simp; first | done | with_reducible rfl)
                 try simp only [Act.put, List.setIfInBounds_toArray, List.set_cons_zero, List.set_cons_succ, Nat.reduceAdd])
            first
              | (refine wpS_skip (by rfl) (by rfl) ?_; try simp only [Act.put, List.setIfInBounds_toArray, List.set_cons_zero, List.set_cons_succ, Nat.reduceAdd])
              | (refine wpS_val (v := ?_) RC9 (by rfl) (by rfl) ?_ ?_; rotate_left; · (intro w' hS; go_simp; first | done | with_reducible rfl)
                 try simp only [Act.put, List.setIfInBounds_toArray, List.set_cons_zero, List.set_cons_succ, Nat.reduceAdd])
            first
              | (refine wpS_skip (by rfl) (by rfl) ?_; try simp only [Act.put, List.setIfInBounds_toArray, List.set_cons_zero, List.set_cons_succ, Nat.reduceAdd])
              | (refine wpS_val (v := ?_) RC9 (by rfl) (by rfl) ?_ ?_; rotate_left; · (intro w' hS; go_simp; first | done | with_reducible rfl)
                 try simp only [Act.put, List.setIfInBounds_toArray, List.set_cons_zero, List.set_cons_succ, Nat.reduceAdd])
            first
              | (refine wpS_skip (by rfl) (by rfl) ?_; try simp only [Act.put, List.setIfInBounds_toArray, List.set_cons_zero, List.set_cons_succ, Nat.reduceAdd])
              | (refine wpS_val (v := ?_) RC9 (by rfl) (by rfl) ?_ ?_; rotate_left; · (intro w' hS; go_simp; first | done | with_reducible rfl)
                 try simp only [Act.put, List.setIfInBounds_toArray, List.set_cons_zero, List.set_cons_succ, Nat.reduceAdd])
            first
              | (refine wpS_skip (by rfl) (by rfl) ?_; try simp only [Act.put, List.setIfInBounds_toArray, List.set_cons_zero, List.set_cons_succ, Nat.reduceAdd])
              | (refine wpS_val (v := ?_) RC9 (by rfl) (by rfl) ?_ ?_; rotate_left; · (intro w' hS; go_simp; first | done | with_reducible rfl)
                 try simp only [Act.put, List.setIfInBounds_toArray, List.set_cons_zero, List.set_cons_succ, Nat.reduceAdd])
            first
              | (refine wpS_skip (by rfl) (by rfl) ?_; try simp only [Act.put, List.setIfInBounds_toArray, List.set_cons_zero, List.set_cons_succ, Nat.reduceAdd])
              | (refine wpS_val (v := ?_) RC9 (by rfl) (by rfl) ?_ ?_; rotate_left; · (intro w' hS; go_simp; first | done | with_reducible rfl)
                 try simp only [Act.put, List.setIfInBounds_toArray, List.set_cons_zero, List.set_cons_succ, Nat.reduceAdd])
            first
              | (refine wpS_skip (by rfl) (by rfl) ?_; try simp only [Act.put, List.setIfInBounds_toArray, List.set_cons_zero, List.set_cons_succ, Nat.reduceAdd])
              | (refine wpS_val (v := ?_) RC9 (by rfl) (by rfl) ?_ ?_; rotate_left; · (intro w' hS; go_simp; first | done | with_reducible rfl)
                 try simp only [Act.put, List.setIfInBounds_toArray, List.set_cons_zero, List.set_cons_succ, Nat.reduceAdd])
            first
              | (refine wpS_skip (by rfl) (by rfl) ?_; try simp only [Act.put, List.setIfInBounds_toArray, List.set_cons_zero, List.set_cons_succ, Nat.reduceAdd])
              | (refine wpS_val (v := ?_) RC9 (by rfl) (by rfl) ?_ ?_; rotate_left; · (intro w' hS; go_simp; first | done | with_reducible rfl)
                 try simp only [Act.put, List.setIfInBounds_toArray, List.set_cons_zero, List.set_cons_succ, Nat.reduceAdd])
            first
              | (refine wpS_skip (by rfl) (by rfl) ?_; try simp only [Act.put, List.setIfInBounds_toArray, List.set_cons_zero, List.set_cons_succ, Nat.reduceAdd])
              | (refine wpS_val (v := ?_) RC9 (by rfl) (by rfl) ?_ ?_; rotate_left; · (intro w' hS; go_simp; first | done | with_reducible rfl)
                 try simp only [Act.put, List.setIfInBounds_toArray, List.set_cons_zero, List.set_cons_succ, Nat.reduceAdd])
            first
              | (refine wpS_skip (by rfl) (by rfl) ?_; try simp only [Act.put, List.setIfInBounds_toArray, List.set_cons_zero, List.set_cons_succ, Nat.reduceAdd])
              | (refine wpS_val (v := ?_) RC9 (by rfl) (by rfl) ?_ ?_; rotate_left; · (intro w' hS; go_simp; first | done | with_reducible rfl)
                 try simp only [Act.put, List.setIfInBounds_toArray, List.set_cons_zero, List.set_cons_succ, Nat.reduceAdd])
            first
              | (refine wpS_skip (by rfl) (by rfl) ?_; try simp only [Act.put, List.setIfInBounds_toArray, List.set_cons_zero, List.set_cons_succ, Nat.reduceAdd])
              | (refine wpS_val (v := ?_) RC9 (by rfl) (by rfl) ?_ ?_; rotate_left; · (intro w' hS; go_simp; first | done | with_reducible rfl)
                 try simp only [Act.put, List.setIfInBounds_toArray, List.set_cons_zero, List.set_cons_succ, Nat.reduceAdd])
            first
              | (refine wpS_skip (by rfl) (by rfl) ?_; try simp only [Act.put, List.setIfInBounds_toArray, List.set_cons_zero, List.set_cons_succ, Nat.reduceAdd])
              | (refine wpS_val (v := ?_) RC9 (by rfl) (by rfl) ?_ ?_; rotate_left; · (intro w' hS; go_simp; first | done | with_reducible rfl)
                 try simp only [Act.put, List.setIfInBounds_toArray, List.set_cons_zero, List.set_cons_succ, Nat.reduceAdd])
            first
              | (refine wpS_skip (by rfl) (by rfl) ?_; try simp only [Act.put, List.setIfInBounds_toArray, List.set_cons_zero, List.set_cons_succ, Nat.reduceAdd])
              | (refine wpS_val (v := ?_) RC9 (by rfl) (by rfl) ?_ ?_; rotate_left; · (intro w' hS; go_simp; first | done | with_reducible rfl)
                 try simp only [Act.put, List.setIfInBounds_toArray, List.set_cons_zero, List.set_cons_succ, Nat.reduceAdd])
            first
              | (refine wpS_skip (by rfl) (by rfl) ?_; try simp only [Act.put, List.setIfInBounds_toArray, List.set_cons_zero, List.set_cons_succ, Nat.reduceAdd])
              | (refine wpS_val (v := ?_) RC9 (by rfl) (by rfl) ?_ ?_; rotate_left; · (intro w' hS; go_simp; first | done | with_reducible rfl)
                 try simp only [Act.put, List.setIfInBounds_toArray, List.set_cons_zero, List.set_cons_succ, Nat.reduceAdd])
            first
              | (refine wpS_skip (by rfl) (by rfl) ?_; try simp only [Act.put, List.setIfInBounds_toArray, List.set_cons_zero, List.set_cons_succ, Nat.reduceAdd])
              | (refine wpS_val (v := ?_) RC9 (by rfl) (by rfl) ?_ ?_; rotate_left; · (intro w' hS; go_simp; first | done | with_reducible rfl)
                 try simp only [Act.put, List.setIfInBounds_toArray, List.set_cons_zero, List.set_cons_succ, Nat.reduceAdd])
            first
              | (refine wpS_skip (by rfl) (by rfl) ?_; try simp only [Act.put, List.setIfInBounds_toArray, List.set_cons_zero, List.set_cons_succ, Nat.reduceAdd])
              | (refine wpS_val (v := ?_) RC9 (by rfl) (by rfl) ?_ ?_; rotate_left; · (intro w' hS; go_simp; first | done | with_reducible rfl)
                 try simp only [Act.put, List.setIfInBounds_toArray, List.set_cons_zero, List.set_cons_succ, Nat.reduceAdd])
            first
              | (refine wpS_skip (by rfl) (by rfl) ?_; try simp only [Act.put, List.setIfInBounds_toArray, List.set_cons_zero, List.set_cons_succ, Nat.reduceAdd])
              | (refine wpS_val (v := ?_) RC9 (by rfl) (by rfl) ?_ ?_; rotate_left; · (intro w' hS; go_simp; first | done | with_reducible rfl)
                 try simp only [Act.put, List.setIfInBounds_toArray, List.set_cons_zero, List.set_cons_succ, Nat.reduceAdd])
            refine wpS_step (v := undef) 0 (by kernel_rfl) rfl (by intro p hp; first | omega | (obtain rfl : p = 0 := (by omega); exact ⟨_, rfl, by kernel_rfl⟩)) (of_decide_eq_true (by kernel_rfl)) (fun w' hS => .inl ⟨by rfl, ?_⟩) (fun _ => rfl) ?_
            · have hS' : DSC Φ B q a.evs a.step (some ⟨g, o, none⟩) c0 (cl.set i x) P a.ptr w w.heap.size c w' := hS
              refine wp_stO 4 (.tmp 61) (.tmp 50) rfl (.bool (c.a1 == 1)) (i * 8 + 2) (by first | rfl | (rw [← Nat.add_assoc]; rfl)) rfl hS'.d.x.row.1 (by simp [Value.cells, List.length_set]; omega) (by kernel_rfl) (by simp [Value.cells, Value.oneCell']) (fun w'' h2 h3 => ⟨rfl, ?_⟩)
              have hh := hS'.setL (x' := { x with stim := (c.a1 == 1) }) (List.getElem?_set_self hiL) (j := 2) (cs := [.bool (c.a1 == 1)]) (by simp only [List.length_cons, List.length_nil]; decide) rfl ⟨rfl, rfl, rfl⟩ h2 h3
              rw [List.set_set] at hh
              exact hh
            try simp only [Act.put, List.setIfInBounds_toArray, List.set_cons_zero, List.set_cons_succ, Nat.reduceAdd]
            first
              | (refine wpS_skip (by rfl) (by rfl) ?_; try simp only [Act.put, List.setIfInBounds_toArray, List.set_cons_zero, List.set_cons_succ, Nat.reduceAdd])
              | (refine wpS_val (v := ?_) RC9 (by rfl) (by rfl) ?_ ?_; rotate_left; · (intro w' hS; go_simp; first | done | with_reducible rfl)
                 try simp only [Act.put, List.setIfInBounds_toArray, List.set_cons_zero, List.set_cons_succ, Nat.reduceAdd])
            first
              | (refine wpS_skip (by rfl) (by rfl) ?_; try simp only [Act.put, List.setIfInBounds_toArray, List.set_cons_zero, List.set_cons_succ, Nat.reduceAdd])
              | (refine wpS_val (v := ?_) RC9 (by rfl) (by rfl) ?_ ?_; rotate_left; · (intro w' hS; go_simp; first | done | with_reducible rfl)
                 try simp only [Act.put, List.setIfInBounds_toArray, List.set_cons_zero, List.set_cons_succ, Nat.reduceAdd])
            refine wpS_step (v := undef) 1 (by kernel_rfl) rfl (by intro p hp; first | omega | (obtain rfl : p = 0 := (by omega); exact ⟨_, rfl, by kernel_rfl⟩)) (of_decide_eq_true (by kernel_rfl)) (fun w' hS => .inl ⟨by rfl, ?_⟩) (fun _ => rfl) ?_
            · have hS' : DSC Φ B q a.evs a.step (some ⟨g, o, none⟩) c0 (cl.set i { x with stim := (c.a1 == 1) }) P a.ptr w w.heap.size c w' := hS
              refine wp_stO 5 (.tmp 63) (.tmp 53) rfl (.int .u8 c.a2) (i * 8 + 3) (by first | rfl | (rw [← Nat.add_assoc]; rfl)) rfl hS'.d.x.row.1 (by simp [Value.cells, List.length_set]; omega) (by kernel_rfl) (by simp [Value.cells, Value.oneCell']) (fun w'' h2 h3 => ⟨rfl, ?_⟩)
              have hh := hS'.setL (x' := { x with stim := (c.a1 == 1), ev := c.a2 }) (List.getElem?_set_self hiL) (j := 3) (cs := [.int .u8 c.a2]) (by simp only [List.length_cons, List.length_nil]; decide) rfl ⟨rfl, rfl, rfl⟩ h2 h3
              rw [List.set_set] at hh
              exact hh
            try simp only [Act.put, List.setIfInBounds_toArray, List.set_cons_zero, List.set_cons_succ, Nat.reduceAdd]
            first
              | (refine wpS_skip (by rfl) (by rfl) ?_; try simp only [Act.put, List.setIfInBounds_toArray, List.set_cons_zero, List.set_cons_succ, Nat.reduceAdd])
              | (refine wpS_val (v := ?_) RC9 (by rfl) (by rfl) ?_ ?_; rotate_left; · (intro w' hS; go_simp; first | done | with_reducible rfl)
                 try simp only [Act.put, List.setIfInBounds_toArray, List.set_cons_zero, List.set_cons_succ, Nat.reduceAdd])
            first
              | (refine wpS_skip (by rfl) (by rfl) ?_; try simp only [Act.put, List.setIfInBounds_toArray, List.set_cons_zero, List.set_cons_succ, Nat.reduceAdd])
              | (refine wpS_val (v := ?_) RC9 (by rfl) (by rfl) ?_ ?_; rotate_left; · (intro w' hS; go_simp; first | done | with_reducible rfl)
                 try simp only [Act.put, List.setIfInBounds_toArray, List.set_cons_zero, List.set_cons_succ, Nat.reduceAdd])
            refine wpS_step (v := undef) 2 (by kernel_rfl) rfl (by intro p hp; first | omega | (obtain rfl : p = 1 := (by omega); exact ⟨_, rfl, by kernel_rfl⟩)) (of_decide_eq_true (by kernel_rfl)) (fun w' hS => .inl ⟨by rfl, ?_⟩) (fun _ => rfl) ?_
            · have hS' : DSC Φ B q a.evs a.step (some ⟨g, o, none⟩) c0 (cl.set i { x with stim := (c.a1 == 1), ev := c.a2 }) P a.ptr w w.heap.size c w' := hS
              refine wp_stO 5 (.tmp 65) (.tmp 56) rfl (.int .u8 c.a3) (i * 8 + 4) (by first | rfl | (rw [← Nat.add_assoc]; rfl)) rfl hS'.d.x.row.1 (by simp [Value.cells, List.length_set]; omega) (by kernel_rfl) (by simp [Value.cells, Value.oneCell']) (fun w'' h2 h3 => ⟨rfl, ?_⟩)
              have hh := hS'.setL (x' := { x with stim := (c.a1 == 1), ev := c.a2, pre := c.a3 }) (List.getElem?_set_self hiL) (j := 4) (cs := [.int .u8 c.a3]) (by simp only [List.length_cons, List.length_nil]; decide) rfl ⟨rfl, rfl, rfl⟩ h2 h3
              rw [List.set_set] at hh
              exact hh
            try simp only [Act.put, List.setIfInBounds_toArray, List.set_cons_zero, List.set_cons_succ, Nat.reduceAdd]
            first
              | (refine wpS_skip (by rfl) (by rfl) ?_; try simp only [Act.put, List.setIfInBounds_toArray, List.set_cons_zero, List.set_cons_succ, Nat.reduceAdd])
              | (refine wpS_val (v := ?_) RC9 (by rfl) (by rfl) ?_ ?_; rotate_left; · (intro w' hS; go_simp; first | done | with_reducible rfl)
                 try simp only [Act.put, List.setIfInBounds_toArray, List.set_cons_zero, List.set_cons_succ, Nat.reduceAdd])
            first
              | (refine wpS_skip (by rfl) (by rfl) ?_; try simp only [Act.put, List.setIfInBounds_toArray, List.set_cons_zero, List.set_cons_succ, Nat.reduceAdd])
              | (refine wpS_val (v := ?_) RC9 (by rfl) (by rfl) ?_ ?_; rotate_left; · (intro w' hS; go_simp; first | done | with_reducible rfl)
                 try simp only [Act.put, List.setIfInBounds_toArray, List.set_cons_zero, List.set_cons_succ, Nat.reduceAdd])
            refine wpS_step (v := undef) 3 (by kernel_rfl) rfl (by intro p hp; first | omega | (obtain rfl : p = 2 := (by omega); exact ⟨_, rfl, by kernel_rfl⟩)) (of_decide_eq_true (by kernel_rfl)) (fun w' hS => .inl ⟨by rfl, ?_⟩) (fun _ => rfl) ?_
            · have hS' : DSC Φ B q a.evs a.step (some ⟨g, o, none⟩) c0 (cl.set i { x with stim := (c.a1 == 1), ev := c.a2, pre := c.a3 }) P a.ptr w w.heap.size c w' := hS
              refine wp_stO 5 (.tmp 67) (.tmp 59) rfl (.int .u8 c.a4) (i * 8 + 5) (by first | rfl | (rw [← Nat.add_assoc]; rfl)) rfl hS'.d.x.row.1 (by simp [Value.cells, List.length_set]; omega) (by kernel_rfl) (by simp [Value.cells, Value.oneCell']) (fun w'' h2 h3 => ⟨rfl, ?_⟩)
              have hh := hS'.setL (x' := { x with stim := (c.a1 == 1), ev := c.a2, pre := c.a3, pri := c.a4 }) (List.getElem?_set_self hiL) (j := 5) (cs := [.int .u8 c.a4]) (by simp only [List.length_cons, List.length_nil]; decide) rfl ⟨rfl, rfl, rfl⟩ h2 h3
              rw [List.set_set] at hh
              exact hh
            try simp only [Act.put, List.setIfInBounds_toArray, List.set_cons_zero, List.set_cons_succ, Nat.reduceAdd]
            refine wpS_done (by kernel_rfl) (fun w10 hS => ?_)
            have hS : DSC Φ B q a.evs a.step (some ⟨g, o, none⟩) c0 (cl.set i { x with stim := (c.a1 == 1), ev := c.a2, pre := c.a3, pri := c.a4 }) P a.ptr w w.heap.size c w10 := hS
            have FF := Lib.hid (HM.out ({ a with ls := a.ls.set i (modeL x.ab (c.a1 == 1) c.a2 c.a3 c.a4) }, 0) (by rw [HME.out, if_neg HNO.out]; rfl) _ w10 (AnsP.none_ (E := 0) Φ ⟨ok_same HOK.out (by rw [← HAB.out]; exact set_map _ _ _ _ _ (abs_get HX.out) rfl), _, _, _, _, by rw [set_abs, HAB.out]; rfl, hS.d.x⟩ hS.d.e))
            clear hS RC9
            go_wp2_with fail
            go_ret2
            exact FF.out
  · have L := Lib.hid (list_no (hX.below hb) (Nat.le_of_not_lt hil) hi256)
    have hax : a.ls[c.a0.toNat]? = none := by rw [hit, ← hab]; exact List.getElem?_eq_none (by rw [abs_len]; omega)
    have hno : modeX a c = (a, 1) := by unfold modeX; rw [hax]
    have HNO := Lib.hid hno
    clear hX hax hok hab hN hit hi hno
    go_enter Try.func97, Try.ntmps97
    go_upto_region 1 with fail
    refine wp_named fun W hW => ?_
    have hbW : Below w.heap.size w W := by subst hW; exact hb
    have L : Calls Try.prog 119 #[.pointer (some ⟨q, 0, none⟩), .int .u8 i] W fun e w' => e = .returned (.pointer none) ∧ W = w' := by subst hW; exact L.out
    have hcc : ∀ i, W.cell? ⟨w.heap.size, i, none⟩ = c.cs.toArray[i]? := by subst hW; exact C0.out.cells
    have FF := Lib.hid (fun w' (hb2 : Below W.heap.size W w') => HM.out (a, 1) HNO.out _ w' (AnsP.stay (E := 1) HD.out HN.out (hbW.trans (hb2.mono hbW.size))))
    have hi := HI.out
    clear hW
    go_wp2_with fail
    refine L.mono ?_
    rintro e w' ⟨rfl, rfl⟩
    clear L
    go_wp2_with fail
    refine wp_region_c (fun w' => Below W.heap.size W w') (by kernel_rfl) (by kernel_rfl) ((Below.refl _ _).drew) ?_
    repeat (first
      | (refine wpL_skip (by rfl) ?_; try simp only [Act.put, List.setIfInBounds_toArray, List.set_cons_zero, List.set_cons_succ, Nat.reduceAdd])
      | (refine wpL_val (v := ?_) (by rfl) ?_ ?_; rotate_left; · (intro w' hS; go_simp; first | done | with_reducible rfl)
         try simp only [Act.put, List.setIfInBounds_toArray, List.set_cons_zero, List.set_cons_succ, Nat.reduceAdd]))
    refine wpL_done (fun w9 hS => ?_)
    go_wp2_with fail
    go_ret2
    exact FF.out w9 hS
end Go.Proofs.Yteecgdbicokgoaa
