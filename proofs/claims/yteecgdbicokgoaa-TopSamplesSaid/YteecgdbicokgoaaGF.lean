/- Daq: StartStop. -/
import Derived.Test.YteecgdbicokgoaaG9
import Derived.Test.YteecgdbicokgoaaG5
import Derived.Test.YteecgdbicokgoaaGrow
namespace Go.Proofs.Yteecgdbicokgoaa
open Go.RowKit
set_option linter.unusedVariables false
set_option linter.unusedSimpArgs false
set_option maxRecDepth 100000
def startS (v : Int) (x : Ls) : Ls := if v = 0 then { x with on := false, ch := false } else if v = 1 then { x with on := true } else { x with ch := true }
/-- StartStop. -/
def startX (a : Dq) (c : Cm) : Dq × List Int × Int :=
  match a.ls[c.a0.toNat]? with
  | none => (a, [], 1)
  | some x => if 2 < c.a1 then (a, [], 1) else if 0 < c.a1 ∧ readyX x = false then (a, [], 90) else ({ a with ls := a.ls.set c.a0.toNat (startS c.a1 x) }, [((manyT (a.ls.take c.a0.toNat) : Nat) : Int)], 0)
theorem startX_none {a : Dq} {c : Cm} (h : a.ls[c.a0.toNat]? = none) : startX a c = (a, [], 1) := by unfold startX; rw [h]
theorem startX_some {a : Dq} {c : Cm} {x : Ls} (h : a.ls[c.a0.toNat]? = some x) : startX a c = if 2 < c.a1 then (a, [], 1) else if 0 < c.a1 ∧ readyX x = false then (a, [], 90) else ({ a with ls := a.ls.set c.a0.toNat (startS c.a1 x) }, [((manyT (a.ls.take c.a0.toNat) : Nat) : Int)], 0) := by unfold startX; rw [h]
theorem take_set {α : Type} : ∀ (l : List α) (i : Nat) (x : α), (l.set i x).take i = l.take i
  | [], i, x => rfl
  | y :: l, 0, x => rfl
  | y :: l, i + 1, x => by rw [List.set_cons_succ, List.take_succ_cons, List.take_succ_cons, take_set l i x]
/-- What Lists answers, where only one list's first table counts. -/
def gFst (n i : Nat) (f : Int) : GhB := ⟨⟨fun g => .slice g.1 n g.2, fun g w => ∃ b o, g.1 = some ⟨b, o, none⟩ ∧ b < w.heap.size ∧ w.cell? ⟨b, o + i * 8, none⟩ = some (.int .i64 f)⟩,
  fun g w w' ⟨b, o, h1, h2, h3⟩ hb => ⟨b, o, h1, Nat.lt_of_lt_of_le h2 hb.size, (hb.cell (p := ⟨b, o + i * 8, none⟩) h2).trans h3⟩⟩
/-- What Lists answers: the list's first byte. -/
theorem first_any {w w' : World} {A : Option Addr} {c i : Nat} {m : List Lc} {ls : List Ls} {x : Ls} (hab : abs m = listsX ls) (h : OL w w'.heap.size A c m) (hx : ls[i]? = some x) : ∃ g o, A = some ⟨g, o, none⟩ ∧ m.length = ls.length ∧ w.cell? ⟨g, o + i * 8, none⟩ = some (.int .i64 ((manyT (ls.take i) : Nat) : Int)) := by
  have hl : m.length = ls.length := by
    have := congrArg List.length hab
    rw [abs_len] at this
    unfold listsX at this
    rw [lsts_len] at this
    exact this
  have hil := (List.getElem?_eq_some_iff.1 hx).1
  obtain ⟨y, hy⟩ : ∃ y, m[i]? = some y := ⟨_, List.getElem?_eq_getElem (by omega)⟩
  obtain ⟨g, o, rfl⟩ := h.row.at_ (by omega)
  have h1 := abs_get hy
  rw [hab] at h1
  unfold listsX at h1
  rw [lsts_get, hx] at h1
  simp only [Option.map_some, Option.some.injEq, Nat.zero_add] at h1
  have hf : y.first = ((manyT (ls.take i) : Nat) : Int) := by
    have := congrArg Ls.first h1
    exact this.symm
  have h2 := h.row.cells _ _ (lcells_at hy (j := 0) rfl)
  rw [Nat.add_zero, hf] at h2
  exact ⟨g, o, rfl, hl, h2⟩
set_option maxRecDepth 100000 in
set_option maxHeartbeats 8000000 in
theorem start_any {Φ : Who} {B q : Nat} {w : World} {a : Dq} (h : DX Φ B w q a) (hN : Nu Φ w) (c : Cm) (hc : c.wf) : Calls Try.prog 98 #[.pointer (some ⟨q, 0, none⟩), c.val] w (AnsP Φ B w q (startX a c).1 (startX a c).2.1 (startX a c).2.2) := by
  have HD := Lib.hid h
  have HN := Lib.hid hN
  obtain ⟨hok, A0, c0, cl, P, hab, hX⟩ := h
  have HOK := Lib.hid hok
  have HAB := Lib.hid hab
  have hb := bl1 w (.cells c.cs.toArray 35)
  have HXX := Lib.hid hX
  obtain ⟨i, hi⟩ : ∃ i : Nat, c.a0 = i := ⟨c.a0.toNat, by have := hc.h0.1; omega⟩
  have hi256 : i < 256 := by have := hc.h0.2; omega
  have hiI : (i : Int) < 256 := by omega
  have hit : c.a0.toNat = i := by omega
  have HI := Lib.hid hi
  have h1a := hc.h1.1
  have h1b := hc.h1.2
  have HEM : Hid (∀ r : Dq × List Int × Int, startX a c = r → ∀ e w', AnsP Φ B w q r.1 r.2.1 r.2.2 e w' → AnsP Φ B w q (startX a c).1 (startX a c).2.1 (startX a c).2.2 e w') := Lib.hid fun r h e w' h2 => by rw [h]; exact h2
  have C0 := Lib.hid (DSC.box (a := a) hX hN c)
  by_cases hil : i < cl.length
  · obtain ⟨x, hx⟩ : ∃ x, cl[i]? = some x := ⟨_, List.getElem?_eq_getElem hil⟩
    obtain ⟨g, o, rfl⟩ := hX.ad hil
    have L := Lib.hid (list_yes (hX.below hb) rfl hil hi256)
    have hax : a.ls[c.a0.toNat]? = some x.ab := by rw [hit, ← hab]; exact abs_get hx
    have hE : startX a c = if 2 < c.a1 then (a, [], 1) else if 0 < c.a1 ∧ readyX x.ab = false then (a, [], 90) else ({ a with ls := (abs cl).set i (startS c.a1 x.ab) }, [((manyT ((abs cl).take i) : Nat) : Int)], 0) := by rw [startX_some hax, hit, hab]
    have HE := Lib.hid hE
    have HX := Lib.hid hx
    have HIL := Lib.hid hil
    have hm16 := hok.m16
    rw [← hab] at hm16
    obtain ⟨f0, hf0⟩ : ∃ f0, manyT ((abs cl).take i) = f0 := ⟨_, rfl⟩
    have HF0 := Lib.hid hf0
    have hf16 : f0 ≤ 16 := by have := many_le (abs cl) i; omega
    obtain ⟨f, hf⟩ : ∃ f : Int, (f0 : Int) = f := ⟨_, rfl⟩
    have HF := Lib.hid hf
    have HFF : Hid (((manyT ((abs cl).take i) : Nat) : Int) = f) := Lib.hid (by rw [hf0]; exact hf)
    have hfb : 0 ≤ f ∧ f ≤ 16 := by omega
    have hwf : IntKind.u8.wrap f = f := IntWalk.u8_in _ (by omega)
    have hn4 := hok.n4
    rw [← hab, abs_len] at hn4
    obtain ⟨rb, hrb⟩ : ∃ rb, readyX x.ab = rb := ⟨_, rfl⟩
    have HRB := Lib.hid hrb
    have hxt : x.tabs.length ≤ 16 := by
      have h1 := many_get _ _ _ (abs_get hx)
      have h3 : x.ab.tabs.length = x.tabs.length := by simp [Lc.ab]
      omega
    have HXT := Lib.hid hxt
    have HT7 : Hid (∀ t ∈ x.tabs, t.es.length ≤ 7) := Lib.hid fun t ht => hok.t7 x.ab (by rw [← hab]; exact List.mem_of_getElem? (abs_get hx)) t.es (by unfold Lc.ab; exact List.mem_map.2 ⟨t, ht, rfl⟩)
    obtain ⟨n, hnn⟩ : ∃ n, cl.length = n := ⟨_, rfl⟩
    have HL := Lib.hid hnn
    rw [hnn] at hil hn4
    have hinI : (i : Int) < n := by omega
    clear hX hok hab hN hit hi hax hE hx hf0 hf hrb hxt hnn hm16
    go_enter Try.func98, Try.ntmps98
    go_upto_region 1 with fail
    refine wp_named fun W hW => ?_
    have hbW : Below w.heap.size w W := by subst hW; exact hb
    have L : Calls Try.prog 119 #[.pointer (some ⟨q, 0, none⟩), .int .u8 i] W fun e w' => e = .returned (.pointer (some ⟨g, o + i * 8, none⟩)) ∧ W = w' := by subst hW; exact L.out
    have C1 := Lib.hid (show DSC Φ B q a.evs a.step (some ⟨g, o, none⟩) c0 cl P a.ptr w w.heap.size c W by subst hW; exact C0.out)
    clear C0
    have hcc := C1.out.cells
    have hrow := C1.out.d.x.row.1
    rw [HL.out] at hrow
    have r0 := C1.out.d.x.lcell rfl HX.out 0 _ rfl
    have r1 := C1.out.d.x.lcell rfl HX.out 1 _ rfl
    have r2 := C1.out.d.x.lcell rfl HX.out 2 _ rfl
    have r3 := C1.out.d.x.lcell rfl HX.out 3 _ rfl
    have r4 := C1.out.d.x.lcell rfl HX.out 4 _ rfl
    have r5 := C1.out.d.x.lcell rfl HX.out 5 _ rfl
    have r6 := C1.out.d.x.lcell rfl HX.out 6 _ rfl
    have r7 := C1.out.d.x.lcell rfl HX.out 7 _ rfl
    rw [Nat.add_zero] at r0
    have RDY := Lib.hid (ready_any x W HXT.out HT7.out (C1.out.d.x.rl.tab i x HX.out) (fun k t ht => C1.out.d.x.rl.ent i x k t HX.out ht))
    rw [HRB.out] at RDY
    have hi := HI.out
    clear hW
    rcases (by omega : 2 < c.a1 ∨ c.a1 = 0 ∨ c.a1 = 1 ∨ c.a1 = 2) with hv | hv | hv | hv
    · have d2 : decide (2 < c.a1) = true := decide_eq_true hv
      have FF := Lib.hid (HEM.out (a, [], 1) (by rw [HE.out, if_pos hv]) _ W (AnsP.stay (E := 1) HD.out HN.out hbW))
      go_wp2_with fail
      refine L.mono ?_
      rintro e w' ⟨rfl, rfl⟩
      clear L
      go_wp2_with fail
      go_ret2
      exact FF.out
    · have hv : c.a1 = 0 := hv
      have HV := Lib.hid hv
      have d2 : decide (2 < c.a1) = false := decide_eq_false (by omega)
      have d0 : decide (0 < c.a1) = false := decide_eq_false (by omega)
      have e0 : (c.a1 == 0) = true := by rw [hv]; rfl
      clear hv h1a h1b
      go_wp2_with fail
      refine L.mono ?_
      rintro e w' ⟨rfl, rfl⟩
      clear L
      go_upto_region 11 with (first
        | (refine wpList_stO rfl 4 (.tmp 44) (.const (.bool false)) rfl (.bool false) (i * 8 + 6) (by first | rfl | (rw [← Nat.add_assoc]; rfl)) rfl hrow (by simp [Value.cells]; omega) (by kernel_rfl) (by simp [Value.cells, Value.oneCell']) ?_; intro w4 h4 g4)
        | (refine wpList_stO rfl 4 (.tmp 46) (.const (.bool false)) rfl (.bool false) (i * 8 + 7) (by first | rfl | (rw [← Nat.add_assoc]; rfl)) rfl h4 (by simp [Value.cells]; omega) (by kernel_rfl) (by simp [Value.cells, Value.oneCell']) ?_; intro w5 h5 g5))
      have C5 := Lib.hid (C1.out.setL2 HX.out (x1 := { x with on := false }) (x2 := { x with on := false, ch := false }) (j1 := 6) (j2 := 7) (by decide) (by decide) rfl ⟨rfl, rfl, rfl⟩ rfl ⟨rfl, rfl, rfl⟩ (by rw [HL.out]; exact h4) g4 (by rw [HL.out]; exact h5) g5)
      have HZ5 : Hid (w.heap.size ≤ w5.heap.size) := Lib.hid (Nat.le_trans hbW.size (Nat.le_trans g4.size g5.size))
      clear h4 g4 h5 g5 hrow
      obtain ⟨a5, ha5⟩ : ∃ a5, abs (cl.set i ({ x with on := false, ch := false })) = a5 := ⟨_, rfl⟩
      have HA5 := Lib.hid ha5
      have HEE : Hid (startX a c = ({ a with ls := a5 }, [f], 0)) := Lib.hid (by
        rw [HE.out, if_neg (by have := HV.out; omega), if_neg (by have := HV.out; omega), ← ha5, set_abs, ← HFF.out]
        unfold startS; rw [if_pos HV.out]; rfl
        )
      have HOK5 : Hid (({ a with ls := a5 } : Dq).ok) := Lib.hid (ok_same HOK.out (by rw [← ha5, set_abs, ← HAB.out]; exact set_map _ _ _ _ _ (abs_get HX.out) rfl))
      have HLF : Hid (manyT (a5.take i) = f0) := Lib.hid (by rw [← ha5, set_abs, take_set]; exact HF0.out)
      have HL5 : Hid (a5.length = n) := Lib.hid (by rw [← ha5, abs_len, List.length_set, HL.out])
      clear ha5
      have RC5 := C5.out.c.1.rule
      have hx5 : a5[i]? = some ({ x with on := false, ch := false }).ab := by rw [← HA5.out]; exact abs_get (List.getElem?_set_self HIL.out)
      have HX5 := Lib.hid hx5
      have LL : Hid (∀ w', Below w5.heap.size w5 w' → Calls Try.prog 46 #[.pointer (some ⟨q, 0, none⟩)] w' (ListsP w' (listsX a5))) := Lib.hid fun w' hb => lists_any (a := { a with ls := a5 }) ⟨HOK5.out, _, c0, _, P, HA5.out, C5.out.d.x.below hb⟩
      clear hx5 hcc
      (try clear r0 r1 r2 r3 r4 r5 r6 r7)
      (try clear RDY)
      (try clear rc4)
      refine wp_region_any (by kernel_rfl) ?_
      refine wpAny_g (fun w' => Below w5.heap.size w5 w') Bel (mkG [(1, gFst n i f)]) [5, 6, 7, 8, 9, 10, 11] [] (by kernel_rfl) (by kernel_rfl) (by kernel_rfl) (stays_mk _ _) (Below.refl _ _).drew ?_
      first
        | (refine wpH_skip (by rfl) (by rfl) ?_; try simp only [Act.put, List.setIfInBounds_toArray, List.set_cons_zero, List.set_cons_succ, Nat.reduceAdd])
        | (refine wpH_val (v := ?_) (by rfl) (by rfl) ?_ ?_; rotate_left; · (intro w' hS hF; go_simp; first | done | with_reducible rfl)
           try simp only [Act.put, List.setIfInBounds_toArray, List.set_cons_zero, List.set_cons_succ, Nat.reduceAdd])
      refine wpH_grow (by rfl) rfl (by rfl) (fun w' hS hF K hK => ?_) (fun g1 => ?_)
      · go_simp
        go_wp2_with (with_reducible refine ((LL.out w' hS).mono ?_))
        rintro e w2 ⟨A6, c6, m6, rfl, hab6, hOL6, hb6⟩
        obtain ⟨g6, o6, rfl, hl6, hf6⟩ := first_any hab6 hOL6 HX5.out
        rw [HLF.out, HF.out] at hf6
        rw [hl6, HL5.out]
        exact hK (some ⟨g6, o6, none⟩, c6) w2 hb6 ⟨g6, o6, rfl, (hOL6.row.lt (g := g6) rfl).2, hf6⟩
      obtain ⟨Ag1, cg1⟩ := g1
      try dsimp only [gVal, gEmpty, gRow, gLit, gPtr, gFst]
      try simp only [Act.put, List.setIfInBounds_toArray, List.set_cons_zero, List.set_cons_succ, Nat.reduceAdd]
      first
        | (refine wpH_skip (by rfl) (by rfl) ?_; try simp only [Act.put, List.setIfInBounds_toArray, List.set_cons_zero, List.set_cons_succ, Nat.reduceAdd])
        | (refine wpH_val (v := ?_) (by rfl) (by rfl) ?_ ?_; rotate_left; · (intro w' hS hF; go_simp; first | done | with_reducible rfl)
           try simp only [Act.put, List.setIfInBounds_toArray, List.set_cons_zero, List.set_cons_succ, Nat.reduceAdd])
      first
        | (refine wpH_skip (by rfl) (by rfl) ?_; try simp only [Act.put, List.setIfInBounds_toArray, List.set_cons_zero, List.set_cons_succ, Nat.reduceAdd])
        | (refine wpH_val (v := ?_) (by rfl) (by rfl) ?_ ?_; rotate_left; · (intro w' hS hF; go_simp; first | done | with_reducible rfl)
           try simp only [Act.put, List.setIfInBounds_toArray, List.set_cons_zero, List.set_cons_succ, Nat.reduceAdd])
      first
        | (refine wpH_skip (by rfl) (by rfl) ?_; try simp only [Act.put, List.setIfInBounds_toArray, List.set_cons_zero, List.set_cons_succ, Nat.reduceAdd])
        | (refine wpH_val (v := ?_) (by rfl) (by rfl) ?_ ?_; rotate_left; · (intro w' hS hF; go_simp; first | done | with_reducible rfl)
           try simp only [Act.put, List.setIfInBounds_toArray, List.set_cons_zero, List.set_cons_succ, Nat.reduceAdd])
      refine wpH_tail (by rfl) ?_
      refine wpH_tail (by rfl) ?_
      refine wpH_tail (by rfl) ?_
      refine wpH_tail (by rfl) ?_
      refine wpH_tail (by rfl) ?_
      refine wpH_tail (by rfl) ?_
      refine wpH_tail (by rfl) ?_
      refine wpH_done (fun w8 hS hF => ?_)
      have f1 := hF _ _ (.head _)
      try dsimp only [gVal, gEmpty, gRow, gLit, gPtr, gFst] at f1
      clear hF
      simp only [List.filterMap_cons, List.filterMap_nil, List.getElem?_toArray, List.getElem?_cons_succ, List.getElem?_cons_zero]
      obtain ⟨b6, o6, e6, hb6, hf6⟩ := f1
      subst e6
      have FIN : Hid (AnsP Φ B w q (startX a c).1 (startX a c).2.1 (startX a c).2.2 (.returned (.tuple #[.slice (some ⟨w8.heap.size, 0, none⟩) 1 1, .int .i64 0])) (w8.alloc (.cells #[.int .u8 f] 5))) := Lib.hid (by
        have hb8 : Below w5.heap.size w5 (w8.alloc (.cells #[.int .u8 f] 5)) := hS.alloc hS.size _
        refine HEM.out _ HEE.out _ _ ⟨some ⟨w8.heap.size, 0, none⟩, 1, Φ, rfl, ?_, ⟨HOK5.out, _, c0, _, P, HA5.out, C5.out.d.x.below hb8⟩, C5.out.d.e.grow hb8⟩
        exact (Own.made (e := 5) (size := 1) w8 (Nat.le_refl _) #[.int .u8 f] 1 1 (by decide) (by decide) rfl).more (Nat.le_trans HZ5.out hS.size))
      clear LL RC5
      go_wp2_with fail
      go_ret2
      exact FIN.out
    · have hv : c.a1 = 1 := hv
      have HV := Lib.hid hv
      have d2 : decide (2 < c.a1) = false := decide_eq_false (by omega)
      have d0 : decide (0 < c.a1) = true := decide_eq_true (by omega)
      have e0 : (c.a1 == 0) = false := by rw [hv]; rfl
      have e1 : (c.a1 == 1) = true := by rw [hv]; rfl
      clear hv h1a h1b
      cases rb with
      | false =>
        have FF := Lib.hid (HEM.out (a, [], 90) (by rw [HE.out, if_neg (by have := HV.out; omega), if_pos ⟨by have := HV.out; omega, HRB.out⟩]))
        go_wp2_with fail
        refine L.mono ?_
        rintro e w' ⟨rfl, rfl⟩
        clear L
        go_wp2_with (go_at_call 121; refine (RDY.out).mono ?_; rintro e w4 ⟨rfl, hb4⟩)
        go_ret2
        exact FF.out _ _ (AnsP.stay (E := 90) HD.out HN.out (hbW.trans (hb4.mono hbW.size)))
      | true =>
        go_wp2_with fail
        refine L.mono ?_
        rintro e w' ⟨rfl, rfl⟩
        clear L
        go_upto_region 7 with (go_at_call 121; refine (RDY.out).mono ?_; rintro e w4 ⟨rfl, hb4⟩)
        have C1 := Lib.hid (C1.out.below hb4)
        have hrow := C1.out.d.x.row.1
        rw [HL.out] at hrow
        have rc4 := C1.out.cells
        go_upto_region 11 with (refine wpList_stO rfl 4 (.tmp 54) (.const (.bool true)) rfl (.bool true) (i * 8 + 6) (by first | rfl | (rw [← Nat.add_assoc]; rfl)) rfl hrow (by simp [Value.cells]; omega) (by kernel_rfl) (by simp [Value.cells, Value.oneCell']) ?_; intro w5 h5 g5)
        have C5 := Lib.hid (C1.out.setL HX.out (x' := { x with on := true }) (j := 6) (cs := [.bool true]) (by decide) rfl ⟨rfl, rfl, rfl⟩ (by rw [HL.out]; exact h5) g5)
        have HZ5 : Hid (w.heap.size ≤ w5.heap.size) := Lib.hid (Nat.le_trans hbW.size (Nat.le_trans hb4.size g5.size))
        clear h5 g5 hrow
        obtain ⟨a5, ha5⟩ : ∃ a5, abs (cl.set i ({ x with on := true })) = a5 := ⟨_, rfl⟩
        have HA5 := Lib.hid ha5
        have HEE : Hid (startX a c = ({ a with ls := a5 }, [f], 0)) := Lib.hid (by
          rw [HE.out, if_neg (by have := HV.out; omega), if_neg (fun h => by have := h.2; rw [HRB.out] at this; cases this), ← ha5, set_abs, ← HFF.out]
          unfold startS; rw [if_neg (by have := HV.out; omega), if_pos HV.out]; rfl
          )
        have HOK5 : Hid (({ a with ls := a5 } : Dq).ok) := Lib.hid (ok_same HOK.out (by rw [← ha5, set_abs, ← HAB.out]; exact set_map _ _ _ _ _ (abs_get HX.out) rfl))
        have HLF : Hid (manyT (a5.take i) = f0) := Lib.hid (by rw [← ha5, set_abs, take_set]; exact HF0.out)
        have HL5 : Hid (a5.length = n) := Lib.hid (by rw [← ha5, abs_len, List.length_set, HL.out])
        clear ha5
        have RC5 := C5.out.c.1.rule
        have hx5 : a5[i]? = some ({ x with on := true }).ab := by rw [← HA5.out]; exact abs_get (List.getElem?_set_self HIL.out)
        have HX5 := Lib.hid hx5
        have LL : Hid (∀ w', Below w5.heap.size w5 w' → Calls Try.prog 46 #[.pointer (some ⟨q, 0, none⟩)] w' (ListsP w' (listsX a5))) := Lib.hid fun w' hb => lists_any (a := { a with ls := a5 }) ⟨HOK5.out, _, c0, _, P, HA5.out, C5.out.d.x.below hb⟩
        clear hx5 hcc
        (try clear r0 r1 r2 r3 r4 r5 r6 r7)
        (try clear RDY)
        (try clear rc4)
        refine wp_region_any (by kernel_rfl) ?_
        refine wpAny_g (fun w' => Below w5.heap.size w5 w') Bel (mkG [(1, gFst n i f)]) [5, 6, 7, 8, 9, 10, 11] [] (by kernel_rfl) (by kernel_rfl) (by kernel_rfl) (stays_mk _ _) (Below.refl _ _).drew ?_
        first
          | (refine wpH_skip (by rfl) (by rfl) ?_; try simp only [Act.put, List.setIfInBounds_toArray, List.set_cons_zero, List.set_cons_succ, Nat.reduceAdd])
          | (refine wpH_val (v := ?_) (by rfl) (by rfl) ?_ ?_; rotate_left; · (intro w' hS hF; go_simp; first | done | with_reducible rfl)
             try simp only [Act.put, List.setIfInBounds_toArray, List.set_cons_zero, List.set_cons_succ, Nat.reduceAdd])
        refine wpH_grow (by rfl) rfl (by rfl) (fun w' hS hF K hK => ?_) (fun g1 => ?_)
        · go_simp
          go_wp2_with (with_reducible refine ((LL.out w' hS).mono ?_))
          rintro e w2 ⟨A6, c6, m6, rfl, hab6, hOL6, hb6⟩
          obtain ⟨g6, o6, rfl, hl6, hf6⟩ := first_any hab6 hOL6 HX5.out
          rw [HLF.out, HF.out] at hf6
          rw [hl6, HL5.out]
          exact hK (some ⟨g6, o6, none⟩, c6) w2 hb6 ⟨g6, o6, rfl, (hOL6.row.lt (g := g6) rfl).2, hf6⟩
        obtain ⟨Ag1, cg1⟩ := g1
        try dsimp only [gVal, gEmpty, gRow, gLit, gPtr, gFst]
        try simp only [Act.put, List.setIfInBounds_toArray, List.set_cons_zero, List.set_cons_succ, Nat.reduceAdd]
        first
          | (refine wpH_skip (by rfl) (by rfl) ?_; try simp only [Act.put, List.setIfInBounds_toArray, List.set_cons_zero, List.set_cons_succ, Nat.reduceAdd])
          | (refine wpH_val (v := ?_) (by rfl) (by rfl) ?_ ?_; rotate_left; · (intro w' hS hF; go_simp; first | done | with_reducible rfl)
             try simp only [Act.put, List.setIfInBounds_toArray, List.set_cons_zero, List.set_cons_succ, Nat.reduceAdd])
        first
          | (refine wpH_skip (by rfl) (by rfl) ?_; try simp only [Act.put, List.setIfInBounds_toArray, List.set_cons_zero, List.set_cons_succ, Nat.reduceAdd])
          | (refine wpH_val (v := ?_) (by rfl) (by rfl) ?_ ?_; rotate_left; · (intro w' hS hF; go_simp; first | done | with_reducible rfl)
             try simp only [Act.put, List.setIfInBounds_toArray, List.set_cons_zero, List.set_cons_succ, Nat.reduceAdd])
        first
          | (refine wpH_skip (by rfl) (by rfl) ?_; try simp only [Act.put, List.setIfInBounds_toArray, List.set_cons_zero, List.set_cons_succ, Nat.reduceAdd])
          | (refine wpH_val (v := ?_) (by rfl) (by rfl) ?_ ?_; rotate_left; · (intro w' hS hF; go_simp; first | done | with_reducible rfl)
             try simp only [Act.put, List.setIfInBounds_toArray, List.set_cons_zero, List.set_cons_succ, Nat.reduceAdd])
        refine wpH_tail (by rfl) ?_
        refine wpH_tail (by rfl) ?_
        refine wpH_tail (by rfl) ?_
        refine wpH_tail (by rfl) ?_
        refine wpH_tail (by rfl) ?_
        refine wpH_tail (by rfl) ?_
        refine wpH_tail (by rfl) ?_
        refine wpH_done (fun w8 hS hF => ?_)
        have f1 := hF _ _ (.head _)
        try dsimp only [gVal, gEmpty, gRow, gLit, gPtr, gFst] at f1
        clear hF
        simp only [List.filterMap_cons, List.filterMap_nil, List.getElem?_toArray, List.getElem?_cons_succ, List.getElem?_cons_zero]
        obtain ⟨b6, o6, e6, hb6, hf6⟩ := f1
        subst e6
        have FIN : Hid (AnsP Φ B w q (startX a c).1 (startX a c).2.1 (startX a c).2.2 (.returned (.tuple #[.slice (some ⟨w8.heap.size, 0, none⟩) 1 1, .int .i64 0])) (w8.alloc (.cells #[.int .u8 f] 5))) := Lib.hid (by
          have hb8 : Below w5.heap.size w5 (w8.alloc (.cells #[.int .u8 f] 5)) := hS.alloc hS.size _
          refine HEM.out _ HEE.out _ _ ⟨some ⟨w8.heap.size, 0, none⟩, 1, Φ, rfl, ?_, ⟨HOK5.out, _, c0, _, P, HA5.out, C5.out.d.x.below hb8⟩, C5.out.d.e.grow hb8⟩
          exact (Own.made (e := 5) (size := 1) w8 (Nat.le_refl _) #[.int .u8 f] 1 1 (by decide) (by decide) rfl).more (Nat.le_trans HZ5.out hS.size))
        clear LL RC5
        go_wp2_with fail
        go_ret2
        exact FIN.out
    · have hv : c.a1 = 2 := hv
      have HV := Lib.hid hv
      have d2 : decide (2 < c.a1) = false := decide_eq_false (by omega)
      have d0 : decide (0 < c.a1) = true := decide_eq_true (by omega)
      have e0 : (c.a1 == 0) = false := by rw [hv]; rfl
      have e1 : (c.a1 == 1) = false := by rw [hv]; rfl
      clear hv h1a h1b
      cases rb with
      | false =>
        have FF := Lib.hid (HEM.out (a, [], 90) (by rw [HE.out, if_neg (by have := HV.out; omega), if_pos ⟨by have := HV.out; omega, HRB.out⟩]))
        go_wp2_with fail
        refine L.mono ?_
        rintro e w' ⟨rfl, rfl⟩
        clear L
        go_wp2_with (go_at_call 121; refine (RDY.out).mono ?_; rintro e w4 ⟨rfl, hb4⟩)
        go_ret2
        exact FF.out _ _ (AnsP.stay (E := 90) HD.out HN.out (hbW.trans (hb4.mono hbW.size)))
      | true =>
        go_wp2_with fail
        refine L.mono ?_
        rintro e w' ⟨rfl, rfl⟩
        clear L
        go_upto_region 7 with (go_at_call 121; refine (RDY.out).mono ?_; rintro e w4 ⟨rfl, hb4⟩)
        have C1 := Lib.hid (C1.out.below hb4)
        have hrow := C1.out.d.x.row.1
        rw [HL.out] at hrow
        have rc4 := C1.out.cells
        go_upto_region 11 with (refine wpList_stO rfl 4 (.tmp 14) (.const (.bool true)) rfl (.bool true) (i * 8 + 7) (by first | rfl | (rw [← Nat.add_assoc]; rfl)) rfl hrow (by simp [Value.cells]; omega) (by kernel_rfl) (by simp [Value.cells, Value.oneCell']) ?_; intro w5 h5 g5)
        have C5 := Lib.hid (C1.out.setL HX.out (x' := { x with ch := true }) (j := 7) (cs := [.bool true]) (by decide) rfl ⟨rfl, rfl, rfl⟩ (by rw [HL.out]; exact h5) g5)
        have HZ5 : Hid (w.heap.size ≤ w5.heap.size) := Lib.hid (Nat.le_trans hbW.size (Nat.le_trans hb4.size g5.size))
        clear h5 g5 hrow
        obtain ⟨a5, ha5⟩ : ∃ a5, abs (cl.set i ({ x with ch := true })) = a5 := ⟨_, rfl⟩
        have HA5 := Lib.hid ha5
        have HEE : Hid (startX a c = ({ a with ls := a5 }, [f], 0)) := Lib.hid (by
          rw [HE.out, if_neg (by have := HV.out; omega), if_neg (fun h => by have := h.2; rw [HRB.out] at this; cases this), ← ha5, set_abs, ← HFF.out]
          unfold startS; rw [if_neg (by have := HV.out; omega), if_neg (by have := HV.out; omega)]; rfl
          )
        have HOK5 : Hid (({ a with ls := a5 } : Dq).ok) := Lib.hid (ok_same HOK.out (by rw [← ha5, set_abs, ← HAB.out]; exact set_map _ _ _ _ _ (abs_get HX.out) rfl))
        have HLF : Hid (manyT (a5.take i) = f0) := Lib.hid (by rw [← ha5, set_abs, take_set]; exact HF0.out)
        have HL5 : Hid (a5.length = n) := Lib.hid (by rw [← ha5, abs_len, List.length_set, HL.out])
        clear ha5
        have RC5 := C5.out.c.1.rule
        have hx5 : a5[i]? = some ({ x with ch := true }).ab := by rw [← HA5.out]; exact abs_get (List.getElem?_set_self HIL.out)
        have HX5 := Lib.hid hx5
        have LL : Hid (∀ w', Below w5.heap.size w5 w' → Calls Try.prog 46 #[.pointer (some ⟨q, 0, none⟩)] w' (ListsP w' (listsX a5))) := Lib.hid fun w' hb => lists_any (a := { a with ls := a5 }) ⟨HOK5.out, _, c0, _, P, HA5.out, C5.out.d.x.below hb⟩
        clear hx5 hcc
        (try clear r0 r1 r2 r3 r4 r5 r6 r7)
        (try clear RDY)
        (try clear rc4)
        refine wp_region_any (by kernel_rfl) ?_
        refine wpAny_g (fun w' => Below w5.heap.size w5 w') Bel (mkG [(1, gFst n i f)]) [5, 6, 7, 8, 9, 10, 11] [] (by kernel_rfl) (by kernel_rfl) (by kernel_rfl) (stays_mk _ _) (Below.refl _ _).drew ?_
        first
          | (refine wpH_skip (by rfl) (by rfl) ?_; try simp only [Act.put, List.setIfInBounds_toArray, List.set_cons_zero, List.set_cons_succ, Nat.reduceAdd])
          | (refine wpH_val (v := ?_) (by rfl) (by rfl) ?_ ?_; rotate_left; · (intro w' hS hF; go_simp; first | done | with_reducible rfl)
             try simp only [Act.put, List.setIfInBounds_toArray, List.set_cons_zero, List.set_cons_succ, Nat.reduceAdd])
        refine wpH_grow (by rfl) rfl (by rfl) (fun w' hS hF K hK => ?_) (fun g1 => ?_)
        · go_simp
          go_wp2_with (with_reducible refine ((LL.out w' hS).mono ?_))
          rintro e w2 ⟨A6, c6, m6, rfl, hab6, hOL6, hb6⟩
          obtain ⟨g6, o6, rfl, hl6, hf6⟩ := first_any hab6 hOL6 HX5.out
          rw [HLF.out, HF.out] at hf6
          rw [hl6, HL5.out]
          exact hK (some ⟨g6, o6, none⟩, c6) w2 hb6 ⟨g6, o6, rfl, (hOL6.row.lt (g := g6) rfl).2, hf6⟩
        obtain ⟨Ag1, cg1⟩ := g1
        try dsimp only [gVal, gEmpty, gRow, gLit, gPtr, gFst]
        try simp only [Act.put, List.setIfInBounds_toArray, List.set_cons_zero, List.set_cons_succ, Nat.reduceAdd]
        first
          | (refine wpH_skip (by rfl) (by rfl) ?_; try simp only [Act.put, List.setIfInBounds_toArray, List.set_cons_zero, List.set_cons_succ, Nat.reduceAdd])
          | (refine wpH_val (v := ?_) (by rfl) (by rfl) ?_ ?_; rotate_left; · (intro w' hS hF; go_simp; first | done | with_reducible rfl)
             try simp only [Act.put, List.setIfInBounds_toArray, List.set_cons_zero, List.set_cons_succ, Nat.reduceAdd])
        first
          | (refine wpH_skip (by rfl) (by rfl) ?_; try simp only [Act.put, List.setIfInBounds_toArray, List.set_cons_zero, List.set_cons_succ, Nat.reduceAdd])
          | (refine wpH_val (v := ?_) (by rfl) (by rfl) ?_ ?_; rotate_left; · (intro w' hS hF; go_simp; first | done | with_reducible rfl)
             try simp only [Act.put, List.setIfInBounds_toArray, List.set_cons_zero, List.set_cons_succ, Nat.reduceAdd])
        first
          | (refine wpH_skip (by rfl) (by rfl) ?_; try simp only [Act.put, List.setIfInBounds_toArray, List.set_cons_zero, List.set_cons_succ, Nat.reduceAdd])
          | (refine wpH_val (v := ?_) (by rfl) (by rfl) ?_ ?_; rotate_left; · (intro w' hS hF; go_simp; first | done | with_reducible rfl)
             try simp only [Act.put, List.setIfInBounds_toArray, List.set_cons_zero, List.set_cons_succ, Nat.reduceAdd])
        refine wpH_tail (by rfl) ?_
        refine wpH_tail (by rfl) ?_
        refine wpH_tail (by rfl) ?_
        refine wpH_tail (by rfl) ?_
        refine wpH_tail (by rfl) ?_
        refine wpH_tail (by rfl) ?_
        refine wpH_tail (by rfl) ?_
        refine wpH_done (fun w8 hS hF => ?_)
        have f1 := hF _ _ (.head _)
        try dsimp only [gVal, gEmpty, gRow, gLit, gPtr, gFst] at f1
        clear hF
        simp only [List.filterMap_cons, List.filterMap_nil, List.getElem?_toArray, List.getElem?_cons_succ, List.getElem?_cons_zero]
        obtain ⟨b6, o6, e6, hb6, hf6⟩ := f1
        subst e6
        have FIN : Hid (AnsP Φ B w q (startX a c).1 (startX a c).2.1 (startX a c).2.2 (.returned (.tuple #[.slice (some ⟨w8.heap.size, 0, none⟩) 1 1, .int .i64 0])) (w8.alloc (.cells #[.int .u8 f] 5))) := Lib.hid (by
          have hb8 : Below w5.heap.size w5 (w8.alloc (.cells #[.int .u8 f] 5)) := hS.alloc hS.size _
          refine HEM.out _ HEE.out _ _ ⟨some ⟨w8.heap.size, 0, none⟩, 1, Φ, rfl, ?_, ⟨HOK5.out, _, c0, _, P, HA5.out, C5.out.d.x.below hb8⟩, C5.out.d.e.grow hb8⟩
          exact (Own.made (e := 5) (size := 1) w8 (Nat.le_refl _) #[.int .u8 f] 1 1 (by decide) (by decide) rfl).more (Nat.le_trans HZ5.out hS.size))
        clear LL RC5
        go_wp2_with fail
        go_ret2
        exact FIN.out
  · have hax : a.ls[c.a0.toNat]? = none := by rw [hit, ← hab]; exact List.getElem?_eq_none (by rw [abs_len]; omega)
    have L := Lib.hid (list_no (hX.below hb) (Nat.le_of_not_lt hil) hi256)
    have HNO := Lib.hid (startX_none hax)
    clear hX hok hab hN hit hi hax
    go_enter Try.func98, Try.ntmps98
    go_upto_region 1 with fail
    refine wp_named fun W hW => ?_
    have hbW : Below w.heap.size w W := by subst hW; exact hb
    have L : Calls Try.prog 119 #[.pointer (some ⟨q, 0, none⟩), .int .u8 i] W fun e w' => e = .returned (.pointer none) ∧ W = w' := by subst hW; exact L.out
    have hcc : ∀ i, W.cell? ⟨w.heap.size, i, none⟩ = c.cs.toArray[i]? := by subst hW; exact C0.out.cells
    clear C0
    have hi := HI.out
    clear hW
    have FF := Lib.hid (HEM.out (a, [], 1) (by exact HNO.out) _ W (AnsP.stay (E := 1) HD.out HN.out hbW))
    go_wp2_with fail
    refine L.mono ?_
    rintro e w' ⟨rfl, rfl⟩
    clear L
    go_wp2_with fail
    go_ret2
    exact FF.out
end Go.Proofs.Yteecgdbicokgoaa
