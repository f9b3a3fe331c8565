/- The seed's further parts: the lock's bytes stay. -/
import Derived.Test.YteecgdbicokgoaaS8
namespace Go.Proofs.Yteecgdbicokgoaa
open Go.RowKit
set_option linter.unusedVariables false
set_option linter.unusedSimpArgs false
set_option maxRecDepth 100000
/-- As AnsS, DoP; the lock's bytes stay where they were. -/
def AnsK (w : World) (N L T s m l : Nat) (x : St) (bs : List Int) (e : Ending) (w' : World) : Prop := ∃ v, e = .returned v ∧ PosP w bs v w' ∧ TA w' L T N s m l x ∧ ChS L T w w'
def DoK (w : World) (N L T s m l : Nat) (x : St) (bs : List Int) (e : Ending) (w' : World) : Prop := ∃ v, e = .returned (.tuple #[v, .int .i64 0]) ∧ PosP w bs v w' ∧ TA w' L T N s m l x ∧ ChS L T w w'
set_option maxHeartbeats 4000000 in
theorem ses_seedK {w : World} {L T N s m l : Nat} {x : St} (h : TA w L T N s m l x) (c : Cm) (hw : c.wf) (hc : c.code = 12) (hm1 : c.a0 = 1) (V : Value) {a' : LX} {k : Int} {bs : List Int} (hr : seedX x.a 1 c.a1 [] = (a', k, bs, 0)) (hk : 0 ≤ k ∧ k < 256) (hbl : bs.length ≤ 6) :
    Calls Try.prog 85 #[.pointer (some ⟨s, 0, none⟩), c.val, V] w (AnsK w N L T s m l { x with a := a' } (k :: bs)) := by
  have hbw := bl1 w (.cells c.cs.toArray 35)
  have hcc := (Blk.new w 35 c.cs.toArray).cell
  have H1 := h.below hbw
  have hsl := Blk.cell H1.sl
  have HH := Lib.hid H1
  have HB := Lib.hid hbw
  have SD := Lib.hid (fun w' (hb' : Below (w.alloc (.cells c.cs.toArray 35)).heap.size (w.alloc (.cells c.cs.toArray 35)) w') => seed_one ((H1.below hb').lk) (H1.below hb').tz c.a1 V)
  rw [hr] at SD
  obtain ⟨code, a0, a1, a2, a3, a4, cw, bA, bn, bc⟩ := c
  simp only at hc
  subst hc
  simp only at hm1
  subst hm1
  clear h hbw H1 hr hw
  go_enter Try.func85, Try.ntmps85
  go_upto_region 16 with fail
  have SD1 := Lib.hid (SD.out _ ((Below.refl _ _).drew))
  go_region_with (first | (go_at_call 115; refine SD1.out.mono ?_; rintro e w4 ⟨A4, m4, c4, rfl, hl4, ho4, hL4, hc4⟩))
  all_goals
    simp only [Act.put, List.setIfInBounds_toArray, List.set_cons_zero, List.set_cons_succ, Nat.reduceAdd, List.getElem?_toArray, List.getElem?_cons_zero, List.getElem?_cons_succ, Option.bind_some]
    try dsimp only at hl4 ho4 hL4
    subst hl4
    have hd4 := (Below.refl (w.alloc (.cells (⟨12, 1, a1, a2, a3, a4, cw, bA, bn, bc⟩ : Cm).cs.toArray 35)).heap.size (w.alloc (.cells (⟨12, 1, a1, a2, a3, a4, cw, bA, bn, bc⟩ : Cm).cs.toArray 35))).drew
    have FIN4 := Lib.hid ((HH.out.below hd4).lock (N' := N) hL4 (fun i hi => hi) (Nat.le_trans HH.out.n (Nat.le_trans hd4.size hc4.size)) hc4)
    have HZ4 := Lib.hid (Nat.le_trans (Nat.le_trans HB.out.size hd4.size) hc4.size)
    have CH4 := Lib.hid (((ChR.of_below HB.out L [146, 109, 221] L T).grow hd4).trans FIN4.out.2)
    have MO := Lib.hid (fun w => must_ok w)
    have hwk : IntKind.u8.wrap k = k := IntWalk.u8_in _ (by omega)
    have HO4 := Lib.hid ho4
    have HBL := Lib.hid hbl
    clear hL4 hc4 ho4 hd4 SD SD1 hsl hcc hbl
    go_wp2_with fail
    refine (MO.out _).mono ?_
    rintro e w5 ⟨rfl, rfl⟩
    have BK := Blk.new w4 5 #[.int .u8 k]
    have hb4 := bl1 w4 (.cells #[.int .u8 k] 5)
    have WO := Lib.hid ((Own.made (e := 5) (size := 1) w4 (Nat.le_refl _) #[.int .u8 k] 1 1 (by decide) (by decide) rfl))
    have WR := Lib.hid ((HO4.out.below hb4).rd)
    have HB4 := Lib.hid hb4
    have hz44 : w4.heap.size ≤ (w4.alloc (.cells #[.int .u8 k] 5)).heap.size := hb4.size
    clear hb4 BK
    obtain ⟨q, hq⟩ : ∃ q, bs.length = q := ⟨_, rfl⟩
    have HQ := Lib.hid hq
    rw [hq]
    have hqm : 1 + q ≤ maxLen := by unfold maxLen; have := HBL.out; omega
    have hqb : (1 + q) * 1 ≤ 140737488355328 := by have := HBL.out; omega
    have hql : (u8s bs).length = q * 1 := by simp [hq]
    clear hq
    go_wp2_with (at_builtin; refine wpList_app _ rfl (.tmp 80) (.tmp 81) 22 rfl w4.heap.size 5 (.int .u8 0) 1 1 Try.underlying22 info5 rfl (by decide) (some ⟨w4.heap.size, 0, none⟩) 1 1 [.int .u8 k] rfl WO.out _ A4 q c4 (u8s bs) rfl hql WR.out (u8s_one _) hqm hqb hz44 ?_; intro A6 c6 w6 ho6 hg6 hbk6)
    have PS := Lib.hid (fun w => pos_any A6 (1 + q) c6 w)
    have hb6 : Below w4.heap.size w4 w6 := bel_app HB4.out WO.out (Nat.le_refl _) hg6
    have hq1 : (k :: bs).length = 1 + q := by rw [List.length_cons, HQ.out]; omega
    have PL := Lib.hid (PosP.own (w := w) (w5 := w6) (Nat.le_trans HZ4.out hb6.size) (bs := k :: bs) hq1 (ho6.more HZ4.out))
    have HB6 := Lib.hid hb6
    clear ho6 hg6 hbk6 hb6 WO WR
    go_wp2_with fail
    refine (PS.out _).mono ?_
    rintro e w7 ⟨rfl, rfl⟩
    have FB := Lib.hid (HB6.out.trans ((bl1 w6 (.cells #[.int .u8 1, .int .u8 0, .slice A6 (1 + q) c6] 82)).mono HB6.out.size))
    go_wp2_with fail
    go_ret
    exact ⟨_, rfl, PL.out, FIN4.out.1.below FB.out, CH4.out.grow FB.out⟩
theorem AnsK.from_ {w w1 w' : World} {N L T s m l : Nat} {x : St} {bs : List Int} {e : Ending} (hb : Below w.heap.size w w1) (h : AnsK w1 N L T s m l x bs e w') : AnsK w N L T s m l x bs e w' := by
  obtain ⟨v, h1, h2, h3, h4⟩ := h
  exact ⟨v, h1, h2.from_ hb.size, h3, (ChR.of_below hb _ _ _ _).trans h4⟩
theorem does_ansK {w : World} {N L T s m l : Nat} {x : St} {bs : List Int} (c : Cm) (hc : c.code = 12) (v : Value) (h : Calls Try.prog 85 #[.pointer (some ⟨s, 0, none⟩), c.val, v] (w.alloc (.cells c.cs.toArray 35)) (AnsK (w.alloc (.cells c.cs.toArray 35)) N L T s m l x bs)) :
    Calls Try.prog 56 #[.pointer (some ⟨s, 0, none⟩), c.val, v] w (AnsK w N L T s m l x bs) := by
  have hcc := (Blk.new w 35 c.cs.toArray).cell
  have HB := Lib.hid (bl1 w (.cells c.cs.toArray 35))
  have H := Lib.hid h
  obtain ⟨code, a0, a1, a2, a3, a4, cw, bA, bn, bc⟩ := c
  simp only at hc
  clear h
  go_enter Try.func56, Try.ntmps56
  subst hc
  · go_wp2_with fail
    refine H.out.mono ?_
    rintro e w1 ⟨r, rfl, hP, hT, hC⟩
    go_wp2_with fail
    go_ret
    exact AnsK.from_ HB.out ⟨r, rfl, hP, hT, hC⟩
set_option maxHeartbeats 4000000 in
theorem do_ansK {w : World} {L T N s m l : Nat} {x y : St} (h : TA w L T N s m l x) (c : Cm) (hw : c.wf) {bb : List Int} (hbl : bb.length = c.bn) (h10 : c.bn ≤ 1000) (hr : Rd w w.heap.size c.bA (u8s bb)) (hp : putE c = 0) (hc : c.code < 18) (h9 : c.code ≠ 9) (hon : x.on = true ∨ c.code = 1) (v : Value) {bs : List Int}
    (hd : ∀ w1, TA w1 L T N s m l { x with block := 0 } → ChS L T w w1 → Calls Try.prog 56 #[.pointer (some ⟨s, 0, none⟩), c.val, v] w1 (AnsK w1 N L T s m l y bs)) :
    Calls Try.prog 32 #[.pointer (some ⟨s, 0, none⟩), c.val, v] w (DoK w N L T s m l y bs) := by
  have hmf : ∀ (fn : Fn) (first cap : Array Value) (w : World), (Instr.makeFunc fn first cap).run Try.prog w = .ok (.func fn first cap) w := fun _ _ _ _ => rfl
  have hb2 := bl2 w (.cells c.cs.toArray 35) (.cells #[.slice none 0 0] 78)
  have PC := Lib.hid (putc_any c bb _ hw hbl h10 (hr.bel hb2))
  rw [hp] at PC
  have H := Lib.hid h
  have HD := Lib.hid hd
  have HB2 := Lib.hid hb2
  obtain ⟨K1, K2, hbW⟩ := blk2 (W := (w.alloc (.cells c.cs.toArray 35)).alloc (.cells #[.slice none 0 0] 78)) rfl
  have HK := Lib.hid (⟨K1, K2⟩ : Blk _ w.heap.size 35 c.cs.toArray ∧ Blk _ (w.heap.size + 1) 78 #[.slice none 0 0])
  have k1 := K1.cell
  have k2 := K2.cell
  have f2 := K2.frozen
  have hcd : decide ((18 : Int) ≤ c.code) = false := decide_eq_false (by omega)
  have h9d : (c.code != 9) = true := by simpa using h9
  obtain ⟨code, a0, a1, a2, a3, a4, cw, bA, bn, bc⟩ := c
  clear h hr hp hb2 K1 K2 hd hw h9
  go_enter_defers Try.func32, Try.ntmps32
  go_wp2_with fail
  refine PC.out.mono ?_
  rintro e w1 ⟨V1, rfl, hb1⟩
  have hb01 := HB2.out.trans (hb1.mono HB2.out.size)
  have T1 := H.out.below hb01
  have B1 : Blk w1 s 146 #[.pointer (some ⟨m, 0, none⟩), .pointer (some ⟨l, 0, none⟩), .bool x.on, .int .u8 x.area, .int .u32 x.pt, .int .i64 x.block] := T1.sl
  have k1 := (HK.out.1.below hb1).cell
  have b1 := B1.cell
  have HT1 := Lib.hid T1
  have HB01 := Lib.hid hb01
  have HK1 := Lib.hid (⟨HK.out.1.below hb1, HK.out.2.below hb1⟩ : Blk w1 w.heap.size 35 (⟨code, a0, a1, a2, a3, a4, cw, bA, bn, bc⟩ : Cm).cs.toArray ∧ Blk w1 (w.heap.size + 1) 78 #[.slice none 0 0])
  have hns : w.heap.size ≠ s ∧ w.heap.size + 1 ≠ s := by have := H.out.sl.lt; omega
  have hon' : x.on = true ∨ (x.on = false ∧ code = 1) := by
    rcases hon with h | h
    · exact .inl h
    · cases hx : x.on
      · exact .inr ⟨rfl, h⟩
      · exact .inl rfl
  obtain ⟨on, hxo⟩ : ∃ on, x.on = on := ⟨_, rfl⟩
  have HXO := Lib.hid hxo
  rw [hxo] at B1 b1 hon'
  clear PC HK T1 hb01 hb1 f2 hon hxo
  rcases hon' with rfl | ⟨rfl, rfl⟩
  all_goals
    go_wp2_with (refine wpList_stB rfl 3 (.tmp 40) (.const (.int .i64 0)) rfl (.int .i64 0) 5 rfl rfl B1 (by simp [Value.cells]) (by kernel_rfl) (by simp [Value.cells, Value.oneCell']) ?_; intro w2 B2 hg2; have B2 : Blk w2 s 146 #[.pointer (some ⟨m, 0, none⟩), .pointer (some ⟨l, 0, none⟩), .bool _, .int .u8 x.area, .int .u32 x.pt, .int .i64 0] := B2; have b2 := B2.cell; have k12 := (HK1.out.1.grown hg2 (by intro e; injection e with e; exact hns.1 e)).cell)
    obtain ⟨T2, C2⟩ := HT1.out.slw (y := { x with block := 0 }) ⟨rfl, rfl⟩ ⟨H.out.k.a0, H.out.k.a1, H.out.k.p0, H.out.k.p1⟩ (by rw [HXO.out]; exact B2) hg2
    have C02 := (ChR.of_below HB01.out L [146, 109, 221] L T).trans C2
    have D := Lib.hid (HD.out w2 T2 C02)
    have C02' := Lib.hid C02
    have HO2 := Lib.hid (HK1.out.2.grown hg2 (by intro e; injection e with e; exact hns.2 e))
    clear T2 C2 C02 B2 b2 k12 hg2 HK1 HT1 HD k1 b1
    refine D.out.mono ?_
    rintro e w3 ⟨r, rfl, ⟨g, A3, cc3, rfl, hP⟩, hT3, hC3⟩
    have hP : PosP w2 bs (.slice (some ⟨g, 0, none⟩) 1 1) w3 := ⟨g, A3, cc3, rfl, hP⟩
    have BO3 := HO2.out.chR hC3 (by decide) (by have := hT3.ts; have := H.out.tz; omega)
    have C3 := Lib.hid (C02'.out.trans hC3)
    have c3 := BO3.cell
    have f3 := BO3.frozen
    have HBO := Lib.hid BO3
    have HP3 := Lib.hid hP
    have HT3 := Lib.hid hT3
    have HZ2 := Lib.hid C02'.out.size
    clear BO3 hP hT3 hC3 D HO2
    go_wp2_with fail
    refine leaves_cons (f := 54) (args := #[.pointer (some ⟨w.heap.size + 1, 0, none⟩)]) (by simp) (by simp [go_sem]) ?_
    refine (catch_idle ⟨w.heap.size + 1, 0, none⟩ _).mono ?_
    rintro e u' w'' ⟨rfl, rfl, rfl⟩
    have FIN : DoK w N L T s m l y bs (.returned (.tuple #[.slice (some ⟨g, 0, none⟩) 1 1, .int .i64 0])) (w3.setCell ⟨w.heap.size + 1, 0, none⟩ (.slice (some ⟨g, 0, none⟩) 1 1)) :=
      have h78 := ch78 HBO.out (.slice (some ⟨g, 0, none⟩) 1 1)
      ⟨_, rfl, (HP3.out.from_ HZ2.out).ch78 h78, HT3.out.ch78 h78, Chg.set_ (C3.out) (p := ⟨w.heap.size + 1, 0, none⟩) (fun hlt => absurd hlt (by show ¬ (w.heap.size + 1 < w.heap.size); omega)) _⟩
    have HFIN := Lib.hid FIN
    clear FIN
    simp [Leaves, settle, results, Try.results32, go_sem, c3]
    exact HFIN.out
theorem do_seedK {w : World} {L T N s m l : Nat} {x : St} (h : TA w L T N s m l x) (hon : x.on = true) {res : Int} (hr0 : 0 ≤ res ∧ res < 256) (V : Value) {a' : LX} {k : Int} {bs : List Int} (hr : seedX x.a 1 res [] = (a', k, bs, 0)) (hk : 0 ≤ k ∧ k < 256) (hbl : bs.length ≤ 6) :
    Calls Try.prog 32 #[.pointer (some ⟨s, 0, none⟩), (cm 12 1 res 0 0 0 0).val, V] w (DoK w N L T s m l { x with block := 0, a := a' } (k :: bs)) :=
  have hw : (cm 12 1 res 0 0 0 0).wf := wfC (by decide) (by decide) hr0 (by decide) (Nat.le_refl _) (Nat.zero_le _)
  do_ansK h (cm 12 1 res 0 0 0 0) hw (bb := []) rfl (Nat.zero_le _) Rd.nil (put_cm (.inr (.inr (.inl ⟨rfl, rfl, rfl⟩)))) (by show (12 : Int) < 18; decide) (by show (12 : Int) ≠ 9; decide) (.inl hon) _
    fun w1 h1 hc => does_ansK _ rfl _ (ses_seedK (h1.below (bl1 _ _)) _ hw rfl rfl V hr hk hbl)
end Go.Proofs.Yteecgdbicokgoaa
