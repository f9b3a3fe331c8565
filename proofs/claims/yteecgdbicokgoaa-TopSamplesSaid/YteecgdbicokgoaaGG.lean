/- Daq: Do. -/
import Derived.Test.YteecgdbicokgoaaGE
import Derived.Test.YteecgdbicokgoaaGF
import Derived.Test.YteecgdbicokgoaaG1b
namespace Go.Proofs.Yteecgdbicokgoaa
open Go.RowKit
set_option linter.unusedVariables false
set_option linter.unusedSimpArgs false
set_option maxRecDepth 100000
/-- AllocDaq. -/
def allocY (a : Dq) (c : Cm) : Dq × Int := if a.step ≠ 0 then (a, 90) else if 4 < c.a0 then (a, 20) else (allocX a c.a0.toNat, 0)
theorem alloc_any {Φ : Who} {B q : Nat} {w : World} {a : Dq} (h : DX Φ B w q a) (hN : Nu Φ w) (c : Cm) (hc : c.wf) : Calls Try.prog 92 #[.pointer (some ⟨q, 0, none⟩), c.val] w (AnsP Φ B w q (allocY a c).1 [] (allocY a c).2) := by
  unfold allocY
  by_cases hs : a.step = 0
  · rw [if_neg (by omega)]
    by_cases h4 : 4 < c.a0
    · rw [if_pos h4]
      exact alloc_full h hN c hs h4
    · rw [if_neg h4]
      have h0 := hc.h0.1
      exact alloc_yes h hN c hs (n := c.a0.toNat) (by omega) (by omega)
  · rw [if_pos hs]
    exact alloc_seq h hN c hs
def with_ (r : Dq × Int) : Dq × List Int × Int := (r.1, [], r.2)
/-- What a command does that is known, and may be done. -/
def runX (a : Dq) (c : Cm) : Dq × List Int × Int :=
  if c.code = 18 then (freeX a, [], 0) else if c.code = 19 then with_ (allocY a c) else if c.code = 20 then with_ (odtsX a c) else if c.code = 21 then with_ (entsX a c) else if c.code = 22 then with_ (pointX a c) else if c.code = 23 then with_ (writeDX a c) else if c.code = 24 then with_ (modeX a c) else if c.code = 25 then startX a c else with_ (allX a c)
/-- Do. -/
def doX (a : Dq) (c : Cm) : Dq × List Int × Int :=
  if putE c ≠ 0 then (a, [], 1) else if ¬ (18 ≤ c.code ∧ c.code ≤ 26) then (a, [], 101) else if c.code ≤ 21 ∧ runsX a.ls = true then (a, [], 110) else runX a c
theorem AnsP.from_ {Φ : Who} {B : Nat} {w w1 w' : World} {q : Nat} {a' : Dq} {bs : List Int} {E : Int} {e : Ending} (hN : Nu Φ w) (hb : Below w.heap.size w w1) (h : AnsP Φ B w1 q a' bs E e w') : AnsP Φ B w q a' bs E e w' := by
  obtain ⟨V, c, Φ', h1, h2, h3, h4⟩ := h
  exact ⟨V, c, Φ', h1, h2.more hb.size, h3, (Ext.of_below hN hb).trans h4⟩
theorem odts_any {Φ : Who} {B q : Nat} {w : World} {a : Dq} (h : DX Φ B w q a) (hN : Nu Φ w) (c : Cm) (hc : c.wf) : Calls Try.prog 93 #[.pointer (some ⟨q, 0, none⟩), c.val] w (AnsP Φ B w q (odtsX a c).1 [] (odtsX a c).2) := by
  by_cases hl : a.ls.length ≤ c.a0.toNat
  · exact odts_no h hN c hc hl
  · exact odts_yes h hN c hc (by omega)
def wayV (k : Int) : Value := if k = 18 then .func (.func 91) #[] #[] else if k = 19 then .func (.func 92) #[] #[] else if k = 20 then .func (.func 93) #[] #[] else if k = 21 then .func (.func 94) #[] #[] else if k = 22 then .func (.func 95) #[] #[] else if k = 23 then .func (.func 96) #[] #[] else if k = 24 then .func (.func 97) #[] #[] else if k = 25 then .func (.func 98) #[] #[] else if k = 26 then .func (.func 99) #[] #[] else .nilFunc
def stillX (k : Int) : Bool := k == 18 || k == 19 || k == 20 || k == 21
set_option maxHeartbeats 4000000 in
theorem way_any (k : Int) (w : World) : Calls Try.prog 67 #[.int .u8 k] w fun e w' => e = .returned (.tuple #[wayV k, .bool (stillX k)]) ∧ w = w' := by
  rcases (by omega : k = 18 ∨ k = 19 ∨ k = 20 ∨ k = 21 ∨ k = 22 ∨ k = 23 ∨ k = 24 ∨ k = 25 ∨ k = 26 ∨ (k ≠ 18 ∧ k ≠ 19 ∧ k ≠ 20 ∧ k ≠ 21 ∧ k ≠ 22 ∧ k ≠ 23 ∧ k ≠ 24 ∧ k ≠ 25 ∧ k ≠ 26)) with rfl | rfl | rfl | rfl | rfl | rfl | rfl | rfl | rfl | ⟨h1, h2, h3, h4, h5, h6, h7, h8, h9⟩
  · go_enter Try.func67, Try.ntmps67
    go_wp2_with fail
    go_ret2
    exact ⟨rfl, rfl⟩
  · go_enter Try.func67, Try.ntmps67
    go_wp2_with fail
    go_ret2
    exact ⟨rfl, rfl⟩
  · go_enter Try.func67, Try.ntmps67
    go_wp2_with fail
    go_ret2
    exact ⟨rfl, rfl⟩
  · go_enter Try.func67, Try.ntmps67
    go_wp2_with fail
    go_ret2
    exact ⟨rfl, rfl⟩
  · go_enter Try.func67, Try.ntmps67
    go_wp2_with fail
    go_ret2
    exact ⟨rfl, rfl⟩
  · go_enter Try.func67, Try.ntmps67
    go_wp2_with fail
    go_ret2
    exact ⟨rfl, rfl⟩
  · go_enter Try.func67, Try.ntmps67
    go_wp2_with fail
    go_ret2
    exact ⟨rfl, rfl⟩
  · go_enter Try.func67, Try.ntmps67
    go_wp2_with fail
    go_ret2
    exact ⟨rfl, rfl⟩
  · go_enter Try.func67, Try.ntmps67
    go_wp2_with fail
    go_ret2
    exact ⟨rfl, rfl⟩
  · have hv : wayV k = .nilFunc := by unfold wayV; simp only [h1, h2, h3, h4, h5, h6, h7, h8, h9, if_false]
    have hs : stillX k = false := by unfold stillX; simp [h1, h2, h3, h4]
    rw [hv, hs]
    have e1 : (k == 18) = false := beq_eq_false_iff_ne.2 h1
    have e2 : (k == 19) = false := beq_eq_false_iff_ne.2 h2
    have e3 : (k == 20) = false := beq_eq_false_iff_ne.2 h3
    have e4 : (k == 21) = false := beq_eq_false_iff_ne.2 h4
    have e5 : (k == 22) = false := beq_eq_false_iff_ne.2 h5
    have e6 : (k == 23) = false := beq_eq_false_iff_ne.2 h6
    have e7 : (k == 24) = false := beq_eq_false_iff_ne.2 h7
    have e8 : (k == 25) = false := beq_eq_false_iff_ne.2 h8
    have e9 : (k == 26) = false := beq_eq_false_iff_ne.2 h9
    clear hv hs h1 h2 h3 h4 h5 h6 h7 h8 h9
    go_enter Try.func67, Try.ntmps67
    go_wp2_with fail
    go_ret2
    exact ⟨rfl, rfl⟩
theorem do_nil (w : World) (c : Cm) : Calls Try.prog 45 #[.pointer none, c.val] w fun e w' => e = .returned (.tuple #[.slice none 0 0, .int .i64 2]) ∧ Below w.heap.size w w' := by
  have hb := bl1 w (.cells c.cs.toArray 35)
  go_enter Try.func45, Try.ntmps45
  go_wp2_with fail
  go_ret2
  exact ⟨rfl, hb⟩
set_option maxRecDepth 100000 in
set_option maxHeartbeats 4000000 in
theorem do_put {Φ : Who} {B q : Nat} {w : World} {a : Dq} (h : DX Φ B w q a) (hN : Nu Φ w) (c : Cm) (hc : c.wf) (bs : List Int) (hl : bs.length = c.bn) (h10 : c.bn ≤ 1000) (hr : Rd w w.heap.size c.bA (u8s bs)) (hp : putE c ≠ 0) : Calls Try.prog 45 #[.pointer (some ⟨q, 0, none⟩), c.val] w (AnsP Φ B w q (doX a c).1 (doX a c).2.1 (doX a c).2.2) := by
  have HD := Lib.hid h
  have HN := Lib.hid hN
  have hb := bl1 w (.cells c.cs.toArray 35)
  have hcc := (Blk.new w 35 c.cs.toArray).cell
  have PC := Lib.hid (putc_any c bs (w.alloc (.cells c.cs.toArray 35)) hc hl h10 (hr.al _))
  have HC := Lib.hid hc
  have RC := (Blk.new w 35 c.cs.toArray).rule
  have HM : Hid (∀ r : Dq × List Int × Int, doX a c = r → ∀ e w', AnsP Φ B w q r.1 r.2.1 r.2.2 e w' → AnsP Φ B w q (doX a c).1 (doX a c).2.1 (doX a c).2.2 e w') := Lib.hid fun r h e w' h2 => by rw [h]; exact h2
  have FF : Hid (∀ w', Below w.heap.size w w' → AnsP Φ B w q (doX a c).1 (doX a c).2.1 (doX a c).2.2 (.returned (.tuple #[.slice none 0 0, .int .i64 1])) w') := Lib.hid fun w' hb => HM.out (a, [], 1) (by unfold doX; rw [if_pos hp]) _ w' (AnsP.stay (E := 1) HD.out HN.out hb)
  obtain ⟨E, hE⟩ : ∃ E, putE c = E := ⟨_, rfl⟩
  rw [hE] at PC hp
  have d1 : (E != 0) = true := by simpa using hp
  clear hN h hc hr hl h10 hp hE HM
  go_enter Try.func45, Try.ntmps45
  go_wp2_with fail
  refine PC.out.mono ?_
  rintro e w1 ⟨V1, rfl, hb1⟩
  have rc1 := RC w1 hb1
  have RCH := Lib.hid (fun w' (h : Below w1.heap.size w1 w') => RC w' (bel2 hb1 h))
  have hb2 := bel2 hb hb1
  clear hcc hb hb1 RC PC
  go_wp2_with fail
  go_ret2
  exact FF.out _ hb2
set_option maxRecDepth 100000 in
set_option maxHeartbeats 4000000 in
theorem do_not {Φ : Who} {B q : Nat} {w : World} {a : Dq} (h : DX Φ B w q a) (hN : Nu Φ w) (c : Cm) (hc : c.wf) (bs : List Int) (hl : bs.length = c.bn) (h10 : c.bn ≤ 1000) (hr : Rd w w.heap.size c.bA (u8s bs)) (hp : putE c = 0) (hk : ¬ (18 ≤ c.code ∧ c.code ≤ 26)) : Calls Try.prog 45 #[.pointer (some ⟨q, 0, none⟩), c.val] w (AnsP Φ B w q (doX a c).1 (doX a c).2.1 (doX a c).2.2) := by
  have HD := Lib.hid h
  have HN := Lib.hid hN
  have hb := bl1 w (.cells c.cs.toArray 35)
  have hcc := (Blk.new w 35 c.cs.toArray).cell
  have PC := Lib.hid (putc_any c bs (w.alloc (.cells c.cs.toArray 35)) hc hl h10 (hr.al _))
  have HC := Lib.hid hc
  have RC := (Blk.new w 35 c.cs.toArray).rule
  have HM : Hid (∀ r : Dq × List Int × Int, doX a c = r → ∀ e w', AnsP Φ B w q r.1 r.2.1 r.2.2 e w' → AnsP Φ B w q (doX a c).1 (doX a c).2.1 (doX a c).2.2 e w') := Lib.hid fun r h e w' h2 => by rw [h]; exact h2
  have FF : Hid (∀ w', Below w.heap.size w w' → AnsP Φ B w q (doX a c).1 (doX a c).2.1 (doX a c).2.2 (.returned (.tuple #[.slice none 0 0, .int .i64 101])) w') := Lib.hid fun w' hb => HM.out (a, [], 101) (by unfold doX; rw [if_neg (by rw [hp]; decide), if_pos hk]) _ w' (AnsP.stay (E := 101) HD.out HN.out hb)
  have hef : ∀ w, Sem.run Try.prog (binOp BinOp.eql 165 .nilFunc .nilFunc) w = .ok (.bool true) w := fun w => rfl
  have WY := Lib.hid (fun w => way_any c.code w)
  have hv : wayV c.code = .nilFunc := by
    unfold wayV
    repeat rw [if_neg (by omega)]
  rw [hv] at WY
  rw [hp] at PC
  clear hN h hc hr hl h10 hp HM hv hk
  go_enter Try.func45, Try.ntmps45
  go_wp2_with fail
  refine PC.out.mono ?_
  rintro e w1 ⟨V1, rfl, hb1⟩
  have rc1 := RC w1 hb1
  have RCH := Lib.hid (fun w' (h : Below w1.heap.size w1 w') => RC w' (bel2 hb1 h))
  have hb2 := bel2 hb hb1
  clear hcc hb hb1 RC PC
  go_wp2_with fail
  refine (WY.out _).mono ?_
  rintro e w2 ⟨rfl, rfl⟩
  go_wp2_with fail
  go_ret2
  exact FF.out _ hb2
set_option maxRecDepth 100000 in
set_option maxHeartbeats 4000000 in
theorem do_18 {Φ : Who} {B q : Nat} {w : World} {a : Dq} (h : DX Φ B w q a) (hN : Nu Φ w) (c : Cm) (hc : c.wf) (bs : List Int) (hl : bs.length = c.bn) (h10 : c.bn ≤ 1000) (hr : Rd w w.heap.size c.bA (u8s bs)) (hp : putE c = 0) (hk : c.code = 18) : Calls Try.prog 45 #[.pointer (some ⟨q, 0, none⟩), c.val] w (AnsP Φ B w q (doX a c).1 (doX a c).2.1 (doX a c).2.2) := by
  have HD := Lib.hid h
  have HN := Lib.hid hN
  have hb := bl1 w (.cells c.cs.toArray 35)
  have hcc := (Blk.new w 35 c.cs.toArray).cell
  have PC := Lib.hid (putc_any c bs (w.alloc (.cells c.cs.toArray 35)) hc hl h10 (hr.al _))
  have HC := Lib.hid hc
  have RC := (Blk.new w 35 c.cs.toArray).rule
  have HM : Hid (∀ r : Dq × List Int × Int, doX a c = r → ∀ e w', AnsP Φ B w q r.1 r.2.1 r.2.2 e w' → AnsP Φ B w q (doX a c).1 (doX a c).2.1 (doX a c).2.2 e w') := Lib.hid fun r h e w' h2 => by rw [h]; exact h2
  obtain ⟨rb, hrb⟩ : ∃ rb, runsX a.ls = rb := ⟨_, rfl⟩
  have RN := Lib.hid (fun w' (h' : DX Φ B w' q a) => runs_any h')
  rw [hrb] at RN
  have FB : Hid (rb = true → ∀ w', Below w.heap.size w w' → AnsP Φ B w q (doX a c).1 (doX a c).2.1 (doX a c).2.2 (.returned (.tuple #[.slice none 0 0, .int .i64 110])) w') := Lib.hid fun h1 w' hb => HM.out (a, [], 110) (by unfold doX; rw [if_neg (by rw [hp]; decide), if_neg (by rw [hk]; decide), if_pos ⟨by rw [hk]; decide, by rw [hrb, h1]⟩]) _ w' (AnsP.stay (E := 110) HD.out HN.out hb)
  have HR : Hid (rb = false → doX a c = runX a c) := Lib.hid fun h1 => by unfold doX; rw [if_neg (by rw [hp]; decide), if_neg (by rw [hk]; decide), if_neg (by rw [hrb, h1]; exact fun h => by cases h.2)]
  have ST : Hid (rb = false → ∀ w', Below w.heap.size w w' → Calls Try.prog 91 #[.pointer (some ⟨q, 0, none⟩), c.val] w' (AnsP Φ B w q (doX a c).1 (doX a c).2.1 (doX a c).2.2)) := Lib.hid fun h1 w' hb => (free_any (HD.out.below hb) (HN.out.below hb) c).mono fun e w2 h2 => HM.out (freeX a, [], 0) (by rw [HR.out h1]; unfold runX; rw [if_pos hk]) _ _ (AnsP.from_ HN.out hb h2)
  have hef : ∀ w, Sem.run Try.prog (binOp BinOp.eql 165 (.func (.func 91) #[] #[]) .nilFunc) w = .ok (.bool false) w := fun w => rfl
  have WY := Lib.hid (fun w => way_any c.code w)
  have hv : wayV c.code = .func (.func 91) #[] #[] := by rw [hk]; rfl
  have hsx : stillX c.code = true := by rw [hk]; rfl
  rw [hv, hsx] at WY
  rw [hp] at PC
  clear hN h hc hr hl h10 hp HM hv hk hsx HR hrb
  cases rb with
  | true =>
    replace FB := Lib.hid (FB.out rfl)
    clear ST
    go_enter Try.func45, Try.ntmps45
    go_wp2_with fail
    refine PC.out.mono ?_
    rintro e w1 ⟨V1, rfl, hb1⟩
    have rc1 := RC w1 hb1
    have RCH := Lib.hid (fun w' (h : Below w1.heap.size w1 w') => RC w' (bel2 hb1 h))
    have hb2 := bel2 hb hb1
    clear hcc hb hb1 RC PC
    go_wp2_with fail
    refine (WY.out _).mono ?_
    rintro e w2 ⟨rfl, rfl⟩
    have RN1 := Lib.hid (RN.out _ (HD.out.below hb2))
    go_wp2_with (go_at_call 68; refine (RN1.out).mono ?_; rintro e w3 ⟨rfl, hb3⟩)
    go_ret2
    exact FB.out _ (bel2 hb2 hb3)
  | false =>
    replace ST := Lib.hid (ST.out rfl)
    clear FB
    go_enter Try.func45, Try.ntmps45
    go_wp2_with fail
    refine PC.out.mono ?_
    rintro e w1 ⟨V1, rfl, hb1⟩
    have rc1 := RC w1 hb1
    have RCH := Lib.hid (fun w' (h : Below w1.heap.size w1 w') => RC w' (bel2 hb1 h))
    have hb2 := bel2 hb hb1
    clear hcc hb hb1 RC PC
    go_wp2_with fail
    refine (WY.out _).mono ?_
    rintro e w2 ⟨rfl, rfl⟩
    have RN1 := Lib.hid (RN.out _ (HD.out.below hb2))
    go_wp2_with (first
      | (go_at_call 68; refine (RN1.out).mono ?_; rintro e w3 ⟨rfl, hb3⟩; have rc3 := RCH.out w3 hb3)
      | (go_at_call 91; refine (ST.out _ (bel2 hb2 hb3)).mono ?_; rintro e w4 ⟨V4, c4, Φ4, rfl, ho4, hd4, he4⟩))
    go_ret2
    exact ⟨V4, c4, Φ4, rfl, ho4, hd4, he4⟩
set_option maxRecDepth 100000 in
set_option maxHeartbeats 4000000 in
theorem do_19 {Φ : Who} {B q : Nat} {w : World} {a : Dq} (h : DX Φ B w q a) (hN : Nu Φ w) (c : Cm) (hc : c.wf) (bs : List Int) (hl : bs.length = c.bn) (h10 : c.bn ≤ 1000) (hr : Rd w w.heap.size c.bA (u8s bs)) (hp : putE c = 0) (hk : c.code = 19) : Calls Try.prog 45 #[.pointer (some ⟨q, 0, none⟩), c.val] w (AnsP Φ B w q (doX a c).1 (doX a c).2.1 (doX a c).2.2) := by
  have HD := Lib.hid h
  have HN := Lib.hid hN
  have hb := bl1 w (.cells c.cs.toArray 35)
  have hcc := (Blk.new w 35 c.cs.toArray).cell
  have PC := Lib.hid (putc_any c bs (w.alloc (.cells c.cs.toArray 35)) hc hl h10 (hr.al _))
  have HC := Lib.hid hc
  have RC := (Blk.new w 35 c.cs.toArray).rule
  have HM : Hid (∀ r : Dq × List Int × Int, doX a c = r → ∀ e w', AnsP Φ B w q r.1 r.2.1 r.2.2 e w' → AnsP Φ B w q (doX a c).1 (doX a c).2.1 (doX a c).2.2 e w') := Lib.hid fun r h e w' h2 => by rw [h]; exact h2
  obtain ⟨rb, hrb⟩ : ∃ rb, runsX a.ls = rb := ⟨_, rfl⟩
  have RN := Lib.hid (fun w' (h' : DX Φ B w' q a) => runs_any h')
  rw [hrb] at RN
  have FB : Hid (rb = true → ∀ w', Below w.heap.size w w' → AnsP Φ B w q (doX a c).1 (doX a c).2.1 (doX a c).2.2 (.returned (.tuple #[.slice none 0 0, .int .i64 110])) w') := Lib.hid fun h1 w' hb => HM.out (a, [], 110) (by unfold doX; rw [if_neg (by rw [hp]; decide), if_neg (by rw [hk]; decide), if_pos ⟨by rw [hk]; decide, by rw [hrb, h1]⟩]) _ w' (AnsP.stay (E := 110) HD.out HN.out hb)
  have HR : Hid (rb = false → doX a c = runX a c) := Lib.hid fun h1 => by unfold doX; rw [if_neg (by rw [hp]; decide), if_neg (by rw [hk]; decide), if_neg (by rw [hrb, h1]; exact fun h => by cases h.2)]
  have ST : Hid (rb = false → ∀ w', Below w.heap.size w w' → Calls Try.prog 92 #[.pointer (some ⟨q, 0, none⟩), c.val] w' (AnsP Φ B w q (doX a c).1 (doX a c).2.1 (doX a c).2.2)) := Lib.hid fun h1 w' hb => (alloc_any (HD.out.below hb) (HN.out.below hb) c HC.out).mono fun e w2 h2 => HM.out (with_ (allocY a c)) (by rw [HR.out h1]; unfold runX; rw [if_neg (by omega), if_pos hk]) _ _ (AnsP.from_ HN.out hb h2)
  have hef : ∀ w, Sem.run Try.prog (binOp BinOp.eql 165 (.func (.func 92) #[] #[]) .nilFunc) w = .ok (.bool false) w := fun w => rfl
  have WY := Lib.hid (fun w => way_any c.code w)
  have hv : wayV c.code = .func (.func 92) #[] #[] := by rw [hk]; rfl
  have hsx : stillX c.code = true := by rw [hk]; rfl
  rw [hv, hsx] at WY
  rw [hp] at PC
  clear hN h hc hr hl h10 hp HM hv hk hsx HR hrb
  cases rb with
  | true =>
    replace FB := Lib.hid (FB.out rfl)
    clear ST
    go_enter Try.func45, Try.ntmps45
    go_wp2_with fail
    refine PC.out.mono ?_
    rintro e w1 ⟨V1, rfl, hb1⟩
    have rc1 := RC w1 hb1
    have RCH := Lib.hid (fun w' (h : Below w1.heap.size w1 w') => RC w' (bel2 hb1 h))
    have hb2 := bel2 hb hb1
    clear hcc hb hb1 RC PC
    go_wp2_with fail
    refine (WY.out _).mono ?_
    rintro e w2 ⟨rfl, rfl⟩
    have RN1 := Lib.hid (RN.out _ (HD.out.below hb2))
    go_wp2_with (go_at_call 68; refine (RN1.out).mono ?_; rintro e w3 ⟨rfl, hb3⟩)
    go_ret2
    exact FB.out _ (bel2 hb2 hb3)
  | false =>
    replace ST := Lib.hid (ST.out rfl)
    clear FB
    go_enter Try.func45, Try.ntmps45
    go_wp2_with fail
    refine PC.out.mono ?_
    rintro e w1 ⟨V1, rfl, hb1⟩
    have rc1 := RC w1 hb1
    have RCH := Lib.hid (fun w' (h : Below w1.heap.size w1 w') => RC w' (bel2 hb1 h))
    have hb2 := bel2 hb hb1
    clear hcc hb hb1 RC PC
    go_wp2_with fail
    refine (WY.out _).mono ?_
    rintro e w2 ⟨rfl, rfl⟩
    have RN1 := Lib.hid (RN.out _ (HD.out.below hb2))
    go_wp2_with (first
      | (go_at_call 68; refine (RN1.out).mono ?_; rintro e w3 ⟨rfl, hb3⟩; have rc3 := RCH.out w3 hb3)
      | (go_at_call 92; refine (ST.out _ (bel2 hb2 hb3)).mono ?_; rintro e w4 ⟨V4, c4, Φ4, rfl, ho4, hd4, he4⟩))
    go_ret2
    exact ⟨V4, c4, Φ4, rfl, ho4, hd4, he4⟩
set_option maxRecDepth 100000 in
set_option maxHeartbeats 4000000 in
theorem do_20 {Φ : Who} {B q : Nat} {w : World} {a : Dq} (h : DX Φ B w q a) (hN : Nu Φ w) (c : Cm) (hc : c.wf) (bs : List Int) (hl : bs.length = c.bn) (h10 : c.bn ≤ 1000) (hr : Rd w w.heap.size c.bA (u8s bs)) (hp : putE c = 0) (hk : c.code = 20) : Calls Try.prog 45 #[.pointer (some ⟨q, 0, none⟩), c.val] w (AnsP Φ B w q (doX a c).1 (doX a c).2.1 (doX a c).2.2) := by
  have HD := Lib.hid h
  have HN := Lib.hid hN
  have hb := bl1 w (.cells c.cs.toArray 35)
  have hcc := (Blk.new w 35 c.cs.toArray).cell
  have PC := Lib.hid (putc_any c bs (w.alloc (.cells c.cs.toArray 35)) hc hl h10 (hr.al _))
  have HC := Lib.hid hc
  have RC := (Blk.new w 35 c.cs.toArray).rule
  have HM : Hid (∀ r : Dq × List Int × Int, doX a c = r → ∀ e w', AnsP Φ B w q r.1 r.2.1 r.2.2 e w' → AnsP Φ B w q (doX a c).1 (doX a c).2.1 (doX a c).2.2 e w') := Lib.hid fun r h e w' h2 => by rw [h]; exact h2
  obtain ⟨rb, hrb⟩ : ∃ rb, runsX a.ls = rb := ⟨_, rfl⟩
  have RN := Lib.hid (fun w' (h' : DX Φ B w' q a) => runs_any h')
  rw [hrb] at RN
  have FB : Hid (rb = true → ∀ w', Below w.heap.size w w' → AnsP Φ B w q (doX a c).1 (doX a c).2.1 (doX a c).2.2 (.returned (.tuple #[.slice none 0 0, .int .i64 110])) w') := Lib.hid fun h1 w' hb => HM.out (a, [], 110) (by unfold doX; rw [if_neg (by rw [hp]; decide), if_neg (by rw [hk]; decide), if_pos ⟨by rw [hk]; decide, by rw [hrb, h1]⟩]) _ w' (AnsP.stay (E := 110) HD.out HN.out hb)
  have HR : Hid (rb = false → doX a c = runX a c) := Lib.hid fun h1 => by unfold doX; rw [if_neg (by rw [hp]; decide), if_neg (by rw [hk]; decide), if_neg (by rw [hrb, h1]; exact fun h => by cases h.2)]
  have ST : Hid (rb = false → ∀ w', Below w.heap.size w w' → Calls Try.prog 93 #[.pointer (some ⟨q, 0, none⟩), c.val] w' (AnsP Φ B w q (doX a c).1 (doX a c).2.1 (doX a c).2.2)) := Lib.hid fun h1 w' hb => (odts_any (HD.out.below hb) (HN.out.below hb) c HC.out).mono fun e w2 h2 => HM.out (with_ (odtsX a c)) (by rw [HR.out h1]; unfold runX; rw [if_neg (by omega), if_neg (by omega), if_pos hk]) _ _ (AnsP.from_ HN.out hb h2)
  have hef : ∀ w, Sem.run Try.prog (binOp BinOp.eql 165 (.func (.func 93) #[] #[]) .nilFunc) w = .ok (.bool false) w := fun w => rfl
  have WY := Lib.hid (fun w => way_any c.code w)
  have hv : wayV c.code = .func (.func 93) #[] #[] := by rw [hk]; rfl
  have hsx : stillX c.code = true := by rw [hk]; rfl
  rw [hv, hsx] at WY
  rw [hp] at PC
  clear hN h hc hr hl h10 hp HM hv hk hsx HR hrb
  cases rb with
  | true =>
    replace FB := Lib.hid (FB.out rfl)
    clear ST
    go_enter Try.func45, Try.ntmps45
    go_wp2_with fail
    refine PC.out.mono ?_
    rintro e w1 ⟨V1, rfl, hb1⟩
    have rc1 := RC w1 hb1
    have RCH := Lib.hid (fun w' (h : Below w1.heap.size w1 w') => RC w' (bel2 hb1 h))
    have hb2 := bel2 hb hb1
    clear hcc hb hb1 RC PC
    go_wp2_with fail
    refine (WY.out _).mono ?_
    rintro e w2 ⟨rfl, rfl⟩
    have RN1 := Lib.hid (RN.out _ (HD.out.below hb2))
    go_wp2_with (go_at_call 68; refine (RN1.out).mono ?_; rintro e w3 ⟨rfl, hb3⟩)
    go_ret2
    exact FB.out _ (bel2 hb2 hb3)
  | false =>
    replace ST := Lib.hid (ST.out rfl)
    clear FB
    go_enter Try.func45, Try.ntmps45
    go_wp2_with fail
    refine PC.out.mono ?_
    rintro e w1 ⟨V1, rfl, hb1⟩
    have rc1 := RC w1 hb1
    have RCH := Lib.hid (fun w' (h : Below w1.heap.size w1 w') => RC w' (bel2 hb1 h))
    have hb2 := bel2 hb hb1
    clear hcc hb hb1 RC PC
    go_wp2_with fail
    refine (WY.out _).mono ?_
    rintro e w2 ⟨rfl, rfl⟩
    have RN1 := Lib.hid (RN.out _ (HD.out.below hb2))
    go_wp2_with (first
      | (go_at_call 68; refine (RN1.out).mono ?_; rintro e w3 ⟨rfl, hb3⟩; have rc3 := RCH.out w3 hb3)
      | (go_at_call 93; refine (ST.out _ (bel2 hb2 hb3)).mono ?_; rintro e w4 ⟨V4, c4, Φ4, rfl, ho4, hd4, he4⟩))
    go_ret2
    exact ⟨V4, c4, Φ4, rfl, ho4, hd4, he4⟩
set_option maxRecDepth 100000 in
set_option maxHeartbeats 4000000 in
theorem do_21 {Φ : Who} {B q : Nat} {w : World} {a : Dq} (h : DX Φ B w q a) (hN : Nu Φ w) (c : Cm) (hc : c.wf) (bs : List Int) (hl : bs.length = c.bn) (h10 : c.bn ≤ 1000) (hr : Rd w w.heap.size c.bA (u8s bs)) (hp : putE c = 0) (hk : c.code = 21) : Calls Try.prog 45 #[.pointer (some ⟨q, 0, none⟩), c.val] w (AnsP Φ B w q (doX a c).1 (doX a c).2.1 (doX a c).2.2) := by
  have HD := Lib.hid h
  have HN := Lib.hid hN
  have hb := bl1 w (.cells c.cs.toArray 35)
  have hcc := (Blk.new w 35 c.cs.toArray).cell
  have PC := Lib.hid (putc_any c bs (w.alloc (.cells c.cs.toArray 35)) hc hl h10 (hr.al _))
  have HC := Lib.hid hc
  have RC := (Blk.new w 35 c.cs.toArray).rule
  have HM : Hid (∀ r : Dq × List Int × Int, doX a c = r → ∀ e w', AnsP Φ B w q r.1 r.2.1 r.2.2 e w' → AnsP Φ B w q (doX a c).1 (doX a c).2.1 (doX a c).2.2 e w') := Lib.hid fun r h e w' h2 => by rw [h]; exact h2
  obtain ⟨rb, hrb⟩ : ∃ rb, runsX a.ls = rb := ⟨_, rfl⟩
  have RN := Lib.hid (fun w' (h' : DX Φ B w' q a) => runs_any h')
  rw [hrb] at RN
  have FB : Hid (rb = true → ∀ w', Below w.heap.size w w' → AnsP Φ B w q (doX a c).1 (doX a c).2.1 (doX a c).2.2 (.returned (.tuple #[.slice none 0 0, .int .i64 110])) w') := Lib.hid fun h1 w' hb => HM.out (a, [], 110) (by unfold doX; rw [if_neg (by rw [hp]; decide), if_neg (by rw [hk]; decide), if_pos ⟨by rw [hk]; decide, by rw [hrb, h1]⟩]) _ w' (AnsP.stay (E := 110) HD.out HN.out hb)
  have HR : Hid (rb = false → doX a c = runX a c) := Lib.hid fun h1 => by unfold doX; rw [if_neg (by rw [hp]; decide), if_neg (by rw [hk]; decide), if_neg (by rw [hrb, h1]; exact fun h => by cases h.2)]
  have ST : Hid (rb = false → ∀ w', Below w.heap.size w w' → Calls Try.prog 94 #[.pointer (some ⟨q, 0, none⟩), c.val] w' (AnsP Φ B w q (doX a c).1 (doX a c).2.1 (doX a c).2.2)) := Lib.hid fun h1 w' hb => (ents_any (HD.out.below hb) (HN.out.below hb) c HC.out).mono fun e w2 h2 => HM.out (with_ (entsX a c)) (by rw [HR.out h1]; unfold runX; rw [if_neg (by omega), if_neg (by omega), if_neg (by omega), if_pos hk]) _ _ (AnsP.from_ HN.out hb h2)
  have hef : ∀ w, Sem.run Try.prog (binOp BinOp.eql 165 (.func (.func 94) #[] #[]) .nilFunc) w = .ok (.bool false) w := fun w => rfl
  have WY := Lib.hid (fun w => way_any c.code w)
  have hv : wayV c.code = .func (.func 94) #[] #[] := by rw [hk]; rfl
  have hsx : stillX c.code = true := by rw [hk]; rfl
  rw [hv, hsx] at WY
  rw [hp] at PC
  clear hN h hc hr hl h10 hp HM hv hk hsx HR hrb
  cases rb with
  | true =>
    replace FB := Lib.hid (FB.out rfl)
    clear ST
    go_enter Try.func45, Try.ntmps45
    go_wp2_with fail
    refine PC.out.mono ?_
    rintro e w1 ⟨V1, rfl, hb1⟩
    have rc1 := RC w1 hb1
    have RCH := Lib.hid (fun w' (h : Below w1.heap.size w1 w') => RC w' (bel2 hb1 h))
    have hb2 := bel2 hb hb1
    clear hcc hb hb1 RC PC
    go_wp2_with fail
    refine (WY.out _).mono ?_
    rintro e w2 ⟨rfl, rfl⟩
    have RN1 := Lib.hid (RN.out _ (HD.out.below hb2))
    go_wp2_with (go_at_call 68; refine (RN1.out).mono ?_; rintro e w3 ⟨rfl, hb3⟩)
    go_ret2
    exact FB.out _ (bel2 hb2 hb3)
  | false =>
    replace ST := Lib.hid (ST.out rfl)
    clear FB
    go_enter Try.func45, Try.ntmps45
    go_wp2_with fail
    refine PC.out.mono ?_
    rintro e w1 ⟨V1, rfl, hb1⟩
    have rc1 := RC w1 hb1
    have RCH := Lib.hid (fun w' (h : Below w1.heap.size w1 w') => RC w' (bel2 hb1 h))
    have hb2 := bel2 hb hb1
    clear hcc hb hb1 RC PC
    go_wp2_with fail
    refine (WY.out _).mono ?_
    rintro e w2 ⟨rfl, rfl⟩
    have RN1 := Lib.hid (RN.out _ (HD.out.below hb2))
    go_wp2_with (first
      | (go_at_call 68; refine (RN1.out).mono ?_; rintro e w3 ⟨rfl, hb3⟩; have rc3 := RCH.out w3 hb3)
      | (go_at_call 94; refine (ST.out _ (bel2 hb2 hb3)).mono ?_; rintro e w4 ⟨V4, c4, Φ4, rfl, ho4, hd4, he4⟩))
    go_ret2
    exact ⟨V4, c4, Φ4, rfl, ho4, hd4, he4⟩
set_option maxRecDepth 100000 in
set_option maxHeartbeats 4000000 in
theorem do_22 {Φ : Who} {B q : Nat} {w : World} {a : Dq} (h : DX Φ B w q a) (hN : Nu Φ w) (c : Cm) (hc : c.wf) (bs : List Int) (hl : bs.length = c.bn) (h10 : c.bn ≤ 1000) (hr : Rd w w.heap.size c.bA (u8s bs)) (hp : putE c = 0) (hk : c.code = 22) : Calls Try.prog 45 #[.pointer (some ⟨q, 0, none⟩), c.val] w (AnsP Φ B w q (doX a c).1 (doX a c).2.1 (doX a c).2.2) := by
  have HD := Lib.hid h
  have HN := Lib.hid hN
  have hb := bl1 w (.cells c.cs.toArray 35)
  have hcc := (Blk.new w 35 c.cs.toArray).cell
  have PC := Lib.hid (putc_any c bs (w.alloc (.cells c.cs.toArray 35)) hc hl h10 (hr.al _))
  have HC := Lib.hid hc
  have RC := (Blk.new w 35 c.cs.toArray).rule
  have HM : Hid (∀ r : Dq × List Int × Int, doX a c = r → ∀ e w', AnsP Φ B w q r.1 r.2.1 r.2.2 e w' → AnsP Φ B w q (doX a c).1 (doX a c).2.1 (doX a c).2.2 e w') := Lib.hid fun r h e w' h2 => by rw [h]; exact h2
  have HR : Hid (doX a c = runX a c) := Lib.hid (by unfold doX; rw [if_neg (by rw [hp]; decide), if_neg (by rw [hk]; decide), if_neg (by rw [hk]; exact fun h => absurd h.1 (by decide))])
  have ST : Hid (∀ w', Below w.heap.size w w' → Calls Try.prog 95 #[.pointer (some ⟨q, 0, none⟩), c.val] w' (AnsP Φ B w q (doX a c).1 (doX a c).2.1 (doX a c).2.2)) := Lib.hid fun w' hb => (point_any (HD.out.below hb) (HN.out.below hb) c HC.out).mono fun e w2 h2 => HM.out (with_ (pointX a c)) (by rw [HR.out]; unfold runX; rw [if_neg (by omega), if_neg (by omega), if_neg (by omega), if_neg (by omega), if_pos hk]) _ _ (AnsP.from_ HN.out hb h2)
  have hef : ∀ w, Sem.run Try.prog (binOp BinOp.eql 165 (.func (.func 95) #[] #[]) .nilFunc) w = .ok (.bool false) w := fun w => rfl
  have WY := Lib.hid (fun w => way_any c.code w)
  have hv : wayV c.code = .func (.func 95) #[] #[] := by rw [hk]; rfl
  have hsx : stillX c.code = false := by rw [hk]; rfl
  rw [hv, hsx] at WY
  rw [hp] at PC
  clear hN h hc hr hl h10 hp HM hv hk hsx HR 
  go_enter Try.func45, Try.ntmps45
  go_wp2_with fail
  refine PC.out.mono ?_
  rintro e w1 ⟨V1, rfl, hb1⟩
  have rc1 := RC w1 hb1
  have RCH := Lib.hid (fun w' (h : Below w1.heap.size w1 w') => RC w' (bel2 hb1 h))
  have hb2 := bel2 hb hb1
  clear hcc hb hb1 RC PC
  go_wp2_with fail
  refine (WY.out _).mono ?_
  rintro e w2 ⟨rfl, rfl⟩
  go_wp2_with (go_at_call 95; refine (ST.out _ hb2).mono ?_; rintro e w4 ⟨V4, c4, Φ4, rfl, ho4, hd4, he4⟩)
  go_ret2
  exact ⟨V4, c4, Φ4, rfl, ho4, hd4, he4⟩
set_option maxRecDepth 100000 in
set_option maxHeartbeats 4000000 in
theorem do_23 {Φ : Who} {B q : Nat} {w : World} {a : Dq} (h : DX Φ B w q a) (hN : Nu Φ w) (c : Cm) (hc : c.wf) (bs : List Int) (hl : bs.length = c.bn) (h10 : c.bn ≤ 1000) (hr : Rd w w.heap.size c.bA (u8s bs)) (hp : putE c = 0) (hk : c.code = 23) : Calls Try.prog 45 #[.pointer (some ⟨q, 0, none⟩), c.val] w (AnsP Φ B w q (doX a c).1 (doX a c).2.1 (doX a c).2.2) := by
  have HD := Lib.hid h
  have HN := Lib.hid hN
  have hb := bl1 w (.cells c.cs.toArray 35)
  have hcc := (Blk.new w 35 c.cs.toArray).cell
  have PC := Lib.hid (putc_any c bs (w.alloc (.cells c.cs.toArray 35)) hc hl h10 (hr.al _))
  have HC := Lib.hid hc
  have RC := (Blk.new w 35 c.cs.toArray).rule
  have HM : Hid (∀ r : Dq × List Int × Int, doX a c = r → ∀ e w', AnsP Φ B w q r.1 r.2.1 r.2.2 e w' → AnsP Φ B w q (doX a c).1 (doX a c).2.1 (doX a c).2.2 e w') := Lib.hid fun r h e w' h2 => by rw [h]; exact h2
  have HR : Hid (doX a c = runX a c) := Lib.hid (by unfold doX; rw [if_neg (by rw [hp]; decide), if_neg (by rw [hk]; decide), if_neg (by rw [hk]; exact fun h => absurd h.1 (by decide))])
  have ST : Hid (∀ w', Below w.heap.size w w' → Calls Try.prog 96 #[.pointer (some ⟨q, 0, none⟩), c.val] w' (AnsP Φ B w q (doX a c).1 (doX a c).2.1 (doX a c).2.2)) := Lib.hid fun w' hb => (writeD_any (HD.out.below hb) (HN.out.below hb) c HC.out).mono fun e w2 h2 => HM.out (with_ (writeDX a c)) (by rw [HR.out]; unfold runX; rw [if_neg (by omega), if_neg (by omega), if_neg (by omega), if_neg (by omega), if_neg (by omega), if_pos hk]) _ _ (AnsP.from_ HN.out hb h2)
  have hef : ∀ w, Sem.run Try.prog (binOp BinOp.eql 165 (.func (.func 96) #[] #[]) .nilFunc) w = .ok (.bool false) w := fun w => rfl
  have WY := Lib.hid (fun w => way_any c.code w)
  have hv : wayV c.code = .func (.func 96) #[] #[] := by rw [hk]; rfl
  have hsx : stillX c.code = false := by rw [hk]; rfl
  rw [hv, hsx] at WY
  rw [hp] at PC
  clear hN h hc hr hl h10 hp HM hv hk hsx HR 
  go_enter Try.func45, Try.ntmps45
  go_wp2_with fail
  refine PC.out.mono ?_
  rintro e w1 ⟨V1, rfl, hb1⟩
  have rc1 := RC w1 hb1
  have RCH := Lib.hid (fun w' (h : Below w1.heap.size w1 w') => RC w' (bel2 hb1 h))
  have hb2 := bel2 hb hb1
  clear hcc hb hb1 RC PC
  go_wp2_with fail
  refine (WY.out _).mono ?_
  rintro e w2 ⟨rfl, rfl⟩
  go_wp2_with (go_at_call 96; refine (ST.out _ hb2).mono ?_; rintro e w4 ⟨V4, c4, Φ4, rfl, ho4, hd4, he4⟩)
  go_ret2
  exact ⟨V4, c4, Φ4, rfl, ho4, hd4, he4⟩
set_option maxRecDepth 100000 in
set_option maxHeartbeats 4000000 in
theorem do_24 {Φ : Who} {B q : Nat} {w : World} {a : Dq} (h : DX Φ B w q a) (hN : Nu Φ w) (c : Cm) (hc : c.wf) (bs : List Int) (hl : bs.length = c.bn) (h10 : c.bn ≤ 1000) (hr : Rd w w.heap.size c.bA (u8s bs)) (hp : putE c = 0) (hk : c.code = 24) : Calls Try.prog 45 #[.pointer (some ⟨q, 0, none⟩), c.val] w (AnsP Φ B w q (doX a c).1 (doX a c).2.1 (doX a c).2.2) := by
  have HD := Lib.hid h
  have HN := Lib.hid hN
  have hb := bl1 w (.cells c.cs.toArray 35)
  have hcc := (Blk.new w 35 c.cs.toArray).cell
  have PC := Lib.hid (putc_any c bs (w.alloc (.cells c.cs.toArray 35)) hc hl h10 (hr.al _))
  have HC := Lib.hid hc
  have RC := (Blk.new w 35 c.cs.toArray).rule
  have HM : Hid (∀ r : Dq × List Int × Int, doX a c = r → ∀ e w', AnsP Φ B w q r.1 r.2.1 r.2.2 e w' → AnsP Φ B w q (doX a c).1 (doX a c).2.1 (doX a c).2.2 e w') := Lib.hid fun r h e w' h2 => by rw [h]; exact h2
  have HR : Hid (doX a c = runX a c) := Lib.hid (by unfold doX; rw [if_neg (by rw [hp]; decide), if_neg (by rw [hk]; decide), if_neg (by rw [hk]; exact fun h => absurd h.1 (by decide))])
  have ST : Hid (∀ w', Below w.heap.size w w' → Calls Try.prog 97 #[.pointer (some ⟨q, 0, none⟩), c.val] w' (AnsP Φ B w q (doX a c).1 (doX a c).2.1 (doX a c).2.2)) := Lib.hid fun w' hb => (mode_any (HD.out.below hb) (HN.out.below hb) c HC.out).mono fun e w2 h2 => HM.out (with_ (modeX a c)) (by rw [HR.out]; unfold runX; rw [if_neg (by omega), if_neg (by omega), if_neg (by omega), if_neg (by omega), if_neg (by omega), if_neg (by omega), if_pos hk]) _ _ (AnsP.from_ HN.out hb h2)
  have hef : ∀ w, Sem.run Try.prog (binOp BinOp.eql 165 (.func (.func 97) #[] #[]) .nilFunc) w = .ok (.bool false) w := fun w => rfl
  have WY := Lib.hid (fun w => way_any c.code w)
  have hv : wayV c.code = .func (.func 97) #[] #[] := by rw [hk]; rfl
  have hsx : stillX c.code = false := by rw [hk]; rfl
  rw [hv, hsx] at WY
  rw [hp] at PC
  clear hN h hc hr hl h10 hp HM hv hk hsx HR 
  go_enter Try.func45, Try.ntmps45
  go_wp2_with fail
  refine PC.out.mono ?_
  rintro e w1 ⟨V1, rfl, hb1⟩
  have rc1 := RC w1 hb1
  have RCH := Lib.hid (fun w' (h : Below w1.heap.size w1 w') => RC w' (bel2 hb1 h))
  have hb2 := bel2 hb hb1
  clear hcc hb hb1 RC PC
  go_wp2_with fail
  refine (WY.out _).mono ?_
  rintro e w2 ⟨rfl, rfl⟩
  go_wp2_with (go_at_call 97; refine (ST.out _ hb2).mono ?_; rintro e w4 ⟨V4, c4, Φ4, rfl, ho4, hd4, he4⟩)
  go_ret2
  exact ⟨V4, c4, Φ4, rfl, ho4, hd4, he4⟩
set_option maxRecDepth 100000 in
set_option maxHeartbeats 4000000 in
theorem do_25 {Φ : Who} {B q : Nat} {w : World} {a : Dq} (h : DX Φ B w q a) (hN : Nu Φ w) (c : Cm) (hc : c.wf) (bs : List Int) (hl : bs.length = c.bn) (h10 : c.bn ≤ 1000) (hr : Rd w w.heap.size c.bA (u8s bs)) (hp : putE c = 0) (hk : c.code = 25) : Calls Try.prog 45 #[.pointer (some ⟨q, 0, none⟩), c.val] w (AnsP Φ B w q (doX a c).1 (doX a c).2.1 (doX a c).2.2) := by
  have HD := Lib.hid h
  have HN := Lib.hid hN
  have hb := bl1 w (.cells c.cs.toArray 35)
  have hcc := (Blk.new w 35 c.cs.toArray).cell
  have PC := Lib.hid (putc_any c bs (w.alloc (.cells c.cs.toArray 35)) hc hl h10 (hr.al _))
  have HC := Lib.hid hc
  have RC := (Blk.new w 35 c.cs.toArray).rule
  have HM : Hid (∀ r : Dq × List Int × Int, doX a c = r → ∀ e w', AnsP Φ B w q r.1 r.2.1 r.2.2 e w' → AnsP Φ B w q (doX a c).1 (doX a c).2.1 (doX a c).2.2 e w') := Lib.hid fun r h e w' h2 => by rw [h]; exact h2
  have HR : Hid (doX a c = runX a c) := Lib.hid (by unfold doX; rw [if_neg (by rw [hp]; decide), if_neg (by rw [hk]; decide), if_neg (by rw [hk]; exact fun h => absurd h.1 (by decide))])
  have ST : Hid (∀ w', Below w.heap.size w w' → Calls Try.prog 98 #[.pointer (some ⟨q, 0, none⟩), c.val] w' (AnsP Φ B w q (doX a c).1 (doX a c).2.1 (doX a c).2.2)) := Lib.hid fun w' hb => (start_any (HD.out.below hb) (HN.out.below hb) c HC.out).mono fun e w2 h2 => HM.out (startX a c) (by rw [HR.out]; unfold runX; rw [if_neg (by omega), if_neg (by omega), if_neg (by omega), if_neg (by omega), if_neg (by omega), if_neg (by omega), if_neg (by omega), if_pos hk]) _ _ (AnsP.from_ HN.out hb h2)
  have hef : ∀ w, Sem.run Try.prog (binOp BinOp.eql 165 (.func (.func 98) #[] #[]) .nilFunc) w = .ok (.bool false) w := fun w => rfl
  have WY := Lib.hid (fun w => way_any c.code w)
  have hv : wayV c.code = .func (.func 98) #[] #[] := by rw [hk]; rfl
  have hsx : stillX c.code = false := by rw [hk]; rfl
  rw [hv, hsx] at WY
  rw [hp] at PC
  clear hN h hc hr hl h10 hp HM hv hk hsx HR 
  go_enter Try.func45, Try.ntmps45
  go_wp2_with fail
  refine PC.out.mono ?_
  rintro e w1 ⟨V1, rfl, hb1⟩
  have rc1 := RC w1 hb1
  have RCH := Lib.hid (fun w' (h : Below w1.heap.size w1 w') => RC w' (bel2 hb1 h))
  have hb2 := bel2 hb hb1
  clear hcc hb hb1 RC PC
  go_wp2_with fail
  refine (WY.out _).mono ?_
  rintro e w2 ⟨rfl, rfl⟩
  go_wp2_with (go_at_call 98; refine (ST.out _ hb2).mono ?_; rintro e w4 ⟨V4, c4, Φ4, rfl, ho4, hd4, he4⟩)
  go_ret2
  exact ⟨V4, c4, Φ4, rfl, ho4, hd4, he4⟩
set_option maxRecDepth 100000 in
set_option maxHeartbeats 4000000 in
theorem do_26 {Φ : Who} {B q : Nat} {w : World} {a : Dq} (h : DX Φ B w q a) (hN : Nu Φ w) (c : Cm) (hc : c.wf) (bs : List Int) (hl : bs.length = c.bn) (h10 : c.bn ≤ 1000) (hr : Rd w w.heap.size c.bA (u8s bs)) (hp : putE c = 0) (hk : c.code = 26) : Calls Try.prog 45 #[.pointer (some ⟨q, 0, none⟩), c.val] w (AnsP Φ B w q (doX a c).1 (doX a c).2.1 (doX a c).2.2) := by
  have HD := Lib.hid h
  have HN := Lib.hid hN
  have hb := bl1 w (.cells c.cs.toArray 35)
  have hcc := (Blk.new w 35 c.cs.toArray).cell
  have PC := Lib.hid (putc_any c bs (w.alloc (.cells c.cs.toArray 35)) hc hl h10 (hr.al _))
  have HC := Lib.hid hc
  have RC := (Blk.new w 35 c.cs.toArray).rule
  have HM : Hid (∀ r : Dq × List Int × Int, doX a c = r → ∀ e w', AnsP Φ B w q r.1 r.2.1 r.2.2 e w' → AnsP Φ B w q (doX a c).1 (doX a c).2.1 (doX a c).2.2 e w') := Lib.hid fun r h e w' h2 => by rw [h]; exact h2
  have HR : Hid (doX a c = runX a c) := Lib.hid (by unfold doX; rw [if_neg (by rw [hp]; decide), if_neg (by rw [hk]; decide), if_neg (by rw [hk]; exact fun h => absurd h.1 (by decide))])
  have ST : Hid (∀ w', Below w.heap.size w w' → Calls Try.prog 99 #[.pointer (some ⟨q, 0, none⟩), c.val] w' (AnsP Φ B w q (doX a c).1 (doX a c).2.1 (doX a c).2.2)) := Lib.hid fun w' hb => (all_any (HD.out.below hb) (HN.out.below hb) c HC.out).mono fun e w2 h2 => HM.out (with_ (allX a c)) (by rw [HR.out]; unfold runX; rw [if_neg (by omega), if_neg (by omega), if_neg (by omega), if_neg (by omega), if_neg (by omega), if_neg (by omega), if_neg (by omega), if_neg (by omega)]) _ _ (AnsP.from_ HN.out hb h2)
  have hef : ∀ w, Sem.run Try.prog (binOp BinOp.eql 165 (.func (.func 99) #[] #[]) .nilFunc) w = .ok (.bool false) w := fun w => rfl
  have WY := Lib.hid (fun w => way_any c.code w)
  have hv : wayV c.code = .func (.func 99) #[] #[] := by rw [hk]; rfl
  have hsx : stillX c.code = false := by rw [hk]; rfl
  rw [hv, hsx] at WY
  rw [hp] at PC
  clear hN h hc hr hl h10 hp HM hv hk hsx HR 
  go_enter Try.func45, Try.ntmps45
  go_wp2_with fail
  refine PC.out.mono ?_
  rintro e w1 ⟨V1, rfl, hb1⟩
  have rc1 := RC w1 hb1
  have RCH := Lib.hid (fun w' (h : Below w1.heap.size w1 w') => RC w' (bel2 hb1 h))
  have hb2 := bel2 hb hb1
  clear hcc hb hb1 RC PC
  go_wp2_with fail
  refine (WY.out _).mono ?_
  rintro e w2 ⟨rfl, rfl⟩
  go_wp2_with (go_at_call 99; refine (ST.out _ hb2).mono ?_; rintro e w4 ⟨V4, c4, Φ4, rfl, ho4, hd4, he4⟩)
  go_ret2
  exact ⟨V4, c4, Φ4, rfl, ho4, hd4, he4⟩
theorem do_any {Φ : Who} {B q : Nat} {w : World} {a : Dq} (h : DX Φ B w q a) (hN : Nu Φ w) (c : Cm) (hc : c.wf) (bs : List Int) (hl : bs.length = c.bn) (h10 : c.bn ≤ 1000) (hr : Rd w w.heap.size c.bA (u8s bs)) : Calls Try.prog 45 #[.pointer (some ⟨q, 0, none⟩), c.val] w (AnsP Φ B w q (doX a c).1 (doX a c).2.1 (doX a c).2.2) := by
  by_cases hp : putE c = 0
  · by_cases hk : 18 ≤ c.code ∧ c.code ≤ 26
    · rcases (by omega : c.code = 18 ∨ c.code = 19 ∨ c.code = 20 ∨ c.code = 21 ∨ c.code = 22 ∨ c.code = 23 ∨ c.code = 24 ∨ c.code = 25 ∨ c.code = 26) with hk | hk | hk | hk | hk | hk | hk | hk | hk
      · exact do_18 h hN c hc bs hl h10 hr hp hk
      · exact do_19 h hN c hc bs hl h10 hr hp hk
      · exact do_20 h hN c hc bs hl h10 hr hp hk
      · exact do_21 h hN c hc bs hl h10 hr hp hk
      · exact do_22 h hN c hc bs hl h10 hr hp hk
      · exact do_23 h hN c hc bs hl h10 hr hp hk
      · exact do_24 h hN c hc bs hl h10 hr hp hk
      · exact do_25 h hN c hc bs hl h10 hr hp hk
      · exact do_26 h hN c hc bs hl h10 hr hp hk
    · exact do_not h hN c hc bs hl h10 hr hp hk
  · exact do_put h hN c hc bs hl h10 hr hp
end Go.Proofs.Yteecgdbicokgoaa
