/- The slave: which function does a command. -/
import Derived.Test.YteecgdbicokgoaaS2
import Derived.Test.YteecgdbicokgoaaS3
import Derived.Test.YteecgdbicokgoaaS4
namespace Go.Proofs.Yteecgdbicokgoaa
open Go.RowKit
set_option linter.unusedVariables false
set_option linter.unusedSimpArgs false
set_option maxRecDepth 100000
theorem PosP.from_ {w w1 w' : World} {bs : List Int} {v : Value} (hz : w.heap.size ≤ w1.heap.size) (h : PosP w1 bs v w') : PosP w bs v w' := by
  obtain ⟨g, A, c, h1, h2, h3, h4⟩ := h
  exact ⟨g, A, c, h1, by omega, h3, h4.more hz⟩
theorem AnsS.from_ {w w1 w' : World} {L T s m l : Nat} {x : St} {bs : List Int} {e : Ending} (hb : Below w.heap.size w w1) (h : AnsS w1 L T s m l x bs e w') : AnsS w L T s m l x bs e w' := by
  obtain ⟨v, h1, h2, h3, h4⟩ := h
  exact ⟨v, h1, h2.from_ hb.size, h3, (ChR.of_below hb _ _ _ _).trans h4⟩
theorem FltS.from_ {w w1 w' : World} {L T s m l : Nat} {x : St} {f : Int} {e : Ending} (hb : Below w.heap.size w w1) (h : FltS w1 L T s m l x f e w') : FltS w L T s m l x f e w' := by
  obtain ⟨h1, h2, h3⟩ := h
  exact ⟨h1, h2, (ChR.of_below hb _ _ _ _).trans h3⟩
theorem does_ans {w : World} {L T s m l : Nat} {x : St} {bs : List Int} (c : Cm) (hc : c.code = 1 ∨ c.code = 5 ∨ c.code = 12 ∨ c.code = 13) (v : Value) (h : Calls Try.prog 85 #[.pointer (some ⟨s, 0, none⟩), c.val, v] (w.alloc (.cells c.cs.toArray 35)) (AnsS (w.alloc (.cells c.cs.toArray 35)) L T s m l x bs)) :
    Calls Try.prog 56 #[.pointer (some ⟨s, 0, none⟩), c.val, v] w (AnsS w L T s m l x bs) := by
  have hcc := (Blk.new w 35 c.cs.toArray).cell
  have HB := Lib.hid (bl1 w (.cells c.cs.toArray 35))
  have H := Lib.hid h
  obtain ⟨code, a0, a1, a2, a3, a4, cw, bA, bn, bc⟩ := c
  simp only at hc
  clear h
  go_enter Try.func56, Try.ntmps56
  rcases hc with rfl | rfl | rfl | rfl
  all_goals
    go_wp2_with fail
    refine H.out.mono ?_
    rintro e w1 ⟨r, rfl, hP, hT, hC⟩
    go_wp2_with fail
    go_ret
    exact AnsS.from_ HB.out ⟨r, rfl, hP, hT, hC⟩
theorem does_flt {w : World} {L T s m l : Nat} {x : St} {f : Int} (c : Cm) (hc : c.code = 1 ∨ c.code = 5 ∨ c.code = 12 ∨ c.code = 13) (v : Value) (h : Calls Try.prog 85 #[.pointer (some ⟨s, 0, none⟩), c.val, v] (w.alloc (.cells c.cs.toArray 35)) (FltS (w.alloc (.cells c.cs.toArray 35)) L T s m l x f)) :
    Calls Try.prog 56 #[.pointer (some ⟨s, 0, none⟩), c.val, v] w (FltS w L T s m l x f) := by
  have hcc := (Blk.new w 35 c.cs.toArray).cell
  have HB := Lib.hid (bl1 w (.cells c.cs.toArray 35))
  have H := Lib.hid h
  obtain ⟨code, a0, a1, a2, a3, a4, cw, bA, bn, bc⟩ := c
  simp only at hc
  clear h
  go_enter Try.func56, Try.ntmps56
  rcases hc with rfl | rfl | rfl | rfl
  all_goals
    go_wp2_with fail
    refine H.out.mono ?_
    rintro e w1 ⟨rfl, hT, hC⟩
    exact ⟨rfl, FltS.from_ HB.out ⟨rfl, hT, hC⟩⟩
/-- Download, where it is refused. -/
theorem does_down_flt {w : World} {L T s m l : Nat} {x : St} {f : Int} (c : Cm) (hc : c.code = 8) (h0 : 1 ≤ c.a0 ∧ c.a0 ≤ 6) (v : Value) (h : Calls Try.prog 79 #[.pointer (some ⟨s, 0, none⟩), .slice c.bA c.bn c.bc] (w.alloc (.cells c.cs.toArray 35)) (FltS (w.alloc (.cells c.cs.toArray 35)) L T s m l x f)) :
    Calls Try.prog 56 #[.pointer (some ⟨s, 0, none⟩), c.val, v] w (FltS w L T s m l x f) := by
  have hcc := (Blk.new w 35 c.cs.toArray).cell
  have HB := Lib.hid (bl1 w (.cells c.cs.toArray 35))
  have H := Lib.hid h
  have AK := Lib.hid (fun w => ask_ok (.int .i64 1) w)
  have hwa : IntKind.i64.wrap c.a0 = c.a0 := IntWalk.i64_in _ (by omega)
  have h42 : decide (c.a0 ≤ 42) = true := decide_eq_true (by omega)
  have hgt : decide ((0 : Int) < c.a0) = true := decide_eq_true (by omega)
  obtain ⟨code, a0, a1, a2, a3, a4, cw, bA, bn, bc⟩ := c
  simp only at hc
  subst hc
  clear h
  go_enter Try.func56, Try.ntmps56
  go_wp2_with fail
  refine (AK.out _).mono ?_
  rintro e w' ⟨rfl, rfl⟩
  go_wp2_with fail
  refine H.out.mono ?_
  rintro e w1 ⟨rfl, hT, hC⟩
  exact ⟨rfl, FltS.from_ HB.out ⟨rfl, hT, hC⟩⟩
theorem does_down {w : World} {L T s m l : Nat} {x : St} (c : Cm) (hc : c.code = 8) (h0 : 1 ≤ c.a0 ∧ c.a0 ≤ 6) (v : Value) (h : Calls Try.prog 79 #[.pointer (some ⟨s, 0, none⟩), .slice c.bA c.bn c.bc] (w.alloc (.cells c.cs.toArray 35)) fun e w' => e = .returned (.tuple #[]) ∧ TA w' L T w'.heap.size s m l x ∧ ChS L T (w.alloc (.cells c.cs.toArray 35)) w') :
    Calls Try.prog 56 #[.pointer (some ⟨s, 0, none⟩), c.val, v] w (AnsS w L T s m l { x with block := 0 } []) := by
  have hcc := (Blk.new w 35 c.cs.toArray).cell
  have HB := Lib.hid (bl1 w (.cells c.cs.toArray 35))
  have H := Lib.hid h
  have AK := Lib.hid (fun w => ask_ok (.int .i64 1) w)
  have hwa : IntKind.i64.wrap c.a0 = c.a0 := IntWalk.i64_in _ (by omega)
  have h42 : decide (c.a0 ≤ 42) = true := decide_eq_true (by omega)
  have hgt : decide ((0 : Int) < c.a0) = true := decide_eq_true (by omega)
  have hw6 : IntKind.i64.wrap (c.a0 - 6) = c.a0 - 6 := IntWalk.i64_in _ (by omega)
  have LF := Lib.hid (fun w' (hT : TA w' L T w'.heap.size s m l x) => sl_left0 hT (n := c.a0 - 6) (by omega) (by omega))
  obtain ⟨code, a0, a1, a2, a3, a4, cw, bA, bn, bc⟩ := c
  simp only at hc
  subst hc
  clear h
  go_enter Try.func56, Try.ntmps56
  go_wp2_with fail
  refine (AK.out _).mono ?_
  rintro e w' ⟨rfl, rfl⟩
  go_wp2_with fail
  refine H.out.mono ?_
  rintro e w1 ⟨rfl, hT, hC⟩
  have L1 := Lib.hid (LF.out w1 hT)
  have C1 := Lib.hid ((ChR.of_below HB.out L [146, 109, 221] L T).trans hC)
  have Z1 := Lib.hid (Nat.le_trans HB.out.size hC.size)
  clear hT hC H LF
  go_wp2_with fail
  refine L1.out.mono ?_
  rintro e w2 ⟨r, rfl, hP, hT, hC⟩
  go_wp2_with fail
  go_ret
  exact ⟨r, rfl, hP.from_ Z1.out, hT, C1.out.trans hC⟩
end Go.Proofs.Yteecgdbicokgoaa
