/- The program's lock: a part of a seed is told. -/
import Derived.Test.YteecgdbicokgoaaL2
namespace Go.Proofs.Yteecgdbicokgoaa
open Go.RowKit
set_option linter.unusedVariables false
set_option linter.unusedSimpArgs false
set_option maxRecDepth 100000
def SeedP (w : World) (B : Nat) (Ψ : World → Nat → Prop) (l : Nat) (x : LX × Int × List Int × Int) (e : Ending) (w' : World) : Prop := ∃ A m c, e = .returned (.tuple #[.int .i64 x.2.1, .slice A m c, .int .i64 x.2.2.2]) ∧ x.2.2.1.length = m ∧ Own w' w.heap.size 5 1 A m c (u8s x.2.2.1) ∧ LAt w' B (Ψ w') l x.1 ∧ ChT B [109, 221] w w'
theorem LX.ok_none {a : LX} (h : a.ok) : LX.ok { a with out := none } := ⟨h.a0, h.a1, h.s0, h.s1, fun d hd => by cases hd⟩
theorem tell_ok {d : Sd} (h : d.ok) : (tellD d).ok := ⟨h.s1, h.s2, by show d.told + (partD d).length ≤ d.s.length; rw [partD_len]; have := h.t; omega, h.c, h.o, h.b, h.cb⟩
/-- The rest of a seed, behind a part that was told. -/
theorem TrAt.tell {w : World} {B g l : Nat} {Φ : Nat → Prop} {d : Sd} {aa : LX} (hl : Blk w l 109 #[.int .u8 aa.all, .int .u8 aa.shut, .pointer (some ⟨g, 0, none⟩)]) (hBl : B ≤ l) (hok : aa.ok) (ho : aa.out = some d) {A1 : Option Addr} {c1 : Nat} {A2 : Option Addr} {n2 c2 : Nat} {A3 : Option Addr} {c3 : Nat} (hB : B ≤ g)
    (hb : Blk w g 221 #[.int .u8 d.of, .slice A1 (d.s.length - d.told) c1, .slice A2 n2 c2, .slice A3 (d.s.length - d.came.length) c3, .bool (wrongD d)]) (h1 : Own w 0 5 1 A1 (d.s.length - d.told) c1 (u8s (d.s.drop d.told))) (h3 : Own w 0 5 1 A3 (d.s.length - d.came.length) c3 (u8s ((keyL d.s d.of).drop d.came.length))) (hf1 : ∀ i, blkOf A1 = some i → Φ i) (hf3 : ∀ i, blkOf A3 = some i → Φ i)
    (m : Nat) (hm : m = (partD d).length) (A : Option Addr) (hA : A = if c1 = m then A1 else A1.map (·.add m)) :
    LAt (w.setCell ⟨g, 1, none⟩ (.slice A (d.s.length - d.told - m) (c1 - m))) B Φ l { aa with out := some (tellD d) } ∧ ChT B [109, 221] w (w.setCell ⟨g, 1, none⟩ (.slice A (d.s.length - d.told - m) (c1 - m))) := by
  have hml : m ≤ d.s.length - d.told := by rw [hm, partD_len]; omega
  have hc : Chg (fun i => i = g) w (w.setCell ⟨g, 1, none⟩ (.slice A (d.s.length - d.told - m) (c1 - m))) := (Chg.refl (fun i => i = g) _).at_ (q := g) (Eq.refl g) _ _
  have hct : ChT B [109, 221] w (w.setCell ⟨g, 1, none⟩ (.slice A (d.s.length - d.told - m) (c1 - m))) := (ChT.refl _ _ _).set_ (o := 1) hb (by simp) hB _
  refine ⟨⟨hBl, ⟨hok.a0, hok.a1, hok.s0, hok.s1, fun e he => by injection he with he; subst he; exact tell_ok (hok.out d ho)⟩, _, hl.chg hc (fun e => by subst e; have := blk_ty hl hb; cases this), g, rfl, A, c1 - m, A2, n2, c2, A3, c3, hB, ?_, ?_, ?_, fun i hi => hf1 i ?_, hf3⟩, hct⟩
  · have := hb.set_ 1 (.slice A (d.s.length - d.told - m) (c1 - m))
    show Blk _ g 221 #[.int .u8 d.of, .slice A (d.s.length - (d.told + (partD d).length)) (c1 - m), .slice A2 n2 c2, .slice A3 (d.s.length - d.came.length) c3, .bool (wrongD d)]
    rw [← hm, ← Nat.sub_sub]
    exact this
  · show Own _ 0 5 1 A (d.s.length - (d.told + (partD d).length)) (c1 - m) (u8s (d.s.drop (d.told + (partD d).length)))
    rw [← hm, ← Nat.sub_sub, ← List.drop_drop, u8s, List.map_drop]
    have := (h1.cut (k := m) hml (by decide)).chT hct (by decide)
    rw [Nat.mul_one] at this
    rw [← hA] at this
    exact this
  · exact h3.chT hct (by decide)
  · rw [hA] at hi
    split at hi
    · exact hi
    · cases A1 with
      | none => exact hi
      | some a0 =>
        rw [← hi]
        simp only [blkOf, Option.map_some, Option.some.injEq]
        unfold Addr.add
        split <;> rfl
theorem not_ok_none {a : LX} {d : Sd} (h : a.ok) (ho : a.out = some d) : d.ok := h.out d ho
set_option maxRecDepth 100000 in
set_option maxHeartbeats 4000000 in
theorem seed_one {w : World} {B l : Nat} {Φ : Nat → Prop} {a : LX} (h : LAt w B Φ l a) (hB : B ≤ w.heap.size) (res : Int) (v : Value) :
    Calls Try.prog 115 #[.pointer (some ⟨l, 0, none⟩), .int .u8 1, .int .u8 res, v] w (SeedP w B (fun _ => Φ) l (seedX a 1 res [])) := by
  have hX : seedX a 1 res [] = match a.out with
    | none => (a, 0, [], 90)
    | some d => if d.told = d.s.length then (a, 0, [], 90) else ({ a with out := some (tellD d) }, ((d.s.length - d.told : Nat) : Int), partD d, 0) := rfl
  rw [hX]
  have hL : Hid (LAt w B Φ l a) := Lib.hid h
  obtain ⟨h1, h2, p, hl, hm⟩ := h
  cases ho : a.out with
  | none =>
    rw [ho] at hm
    subst hm
    have cl2 : w.cell? ⟨l, 2, none⟩ = some (.pointer none) := (hl.cell 2).trans rfl
    go_enter Try.func115, Try.ntmps115
    go_wp2_with fail
    go_ret3
    exact ⟨none, 0, 0, rfl, rfl, Own.nil _ _ _ _, hL.out, ChT.refl _ _ _⟩
  | some d =>
    rw [ho] at hm
    obtain ⟨g, rfl, A1, c1, A2, n2, c2, A3, c3, hg, hb, h4, h5, hf1, hf3⟩ := hm
    dsimp only
    by_cases htold : d.told = d.s.length
    · rw [if_pos htold]
      have cl2 : w.cell? ⟨l, 2, none⟩ = some (.pointer (some ⟨g, 0, none⟩)) := (hl.cell 2).trans rfl
      have cg1 : w.cell? ⟨g, 1, none⟩ = some (.slice A1 0 c1) := by
        have := hb.cell 1
        rw [show d.s.length - d.told = 0 by omega] at this
        exact this.trans rfl
      go_enter Try.func115, Try.ntmps115
      go_wp2_with fail
      go_ret3
      exact ⟨none, 0, 0, rfl, rfl, Own.nil _ _ _ _, hL.out, ChT.refl _ _ _⟩
    · rw [if_neg htold]
      have hch := ChT.refl B [109, 221] w
      have HNE : Hid (∀ i, blkOf A1 = some i → i ≠ g) := Lib.hid fun i hi => h4.ne_blk hi hb (by decide)

      have hok := h2.out d ho
      have hkl := hok.t
      obtain ⟨nn, hnn⟩ : ∃ nn, d.s.length - d.told = nn := ⟨_, rfl⟩
      have hpl := partD_len d
      have cl2 : w.cell? ⟨l, 2, none⟩ = some (.pointer (some ⟨g, 0, none⟩)) := (hl.cell 2).trans rfl
      have cg1 : w.cell? ⟨g, 1, none⟩ = some (.slice A1 nn c1) := by rw [← hnn]; exact (hb.cell 1).trans rfl
      have cgf := hb.frozen
      have hn0 : 0 < nn := by omega
      obtain ⟨ga, oa, rfl⟩ := h4.at_ (by rw [hnn]; exact hn0)
      have hcap := h4.2.1
      have hcap2 := h4.2.2.1
      unfold maxLen at hcap2
      rw [hnn] at hcap
      have HTL := Lib.hid fun m hm A hA => TrAt.tell hl h1 h2 ho hg hb h4 h5 hf1 hf3 m hm A hA
      have HP : Hid (Rd w w.heap.size (some ⟨ga, oa, none⟩) (u8s (partD d))) := Lib.hid (h4.rd.take' 6)
      have hz : ((nn : Int) == 0) = false := beq_eq_false_iff_ne.2 (by omega)
      have hs20 := hok.s2
      have HO := Lib.hid ho
      have HCH := Lib.hid hch
      clear h5 hb hl ho hch h4
      rw [hnn] at HTL
      have hm6 : nn ≤ 6 ∨ 6 < nn := by omega
      rcases hm6 with hm6 | hm6
      case' inl =>
        have hpm : (partD d).length = nn := by rw [hpl, hnn]; omega
        have hm6' : (nn : Int) ≤ 6 := by omega
        by_cases hcn : c1 = nn
        case' pos =>
          subst hcn
          have tt := HTL.out _ hpm.symm (some ⟨ga, oa, none⟩) (by rw [if_pos rfl])
          simp only [Nat.sub_self] at tt
          have TT := Lib.hid tt
          clear tt
        case' neg =>
          have hcn1 : (nn : Int) ≤ c1 := by omega
          have tt := HTL.out _ hpm.symm (some ⟨ga, oa + nn, none⟩) (by rw [if_neg hcn]; simp [Addr.add]; omega)
          simp only [Nat.sub_self] at tt
          have TT := Lib.hid tt
          clear tt
      case' inr =>
        have hpm : (partD d).length = 6 := by rw [hpl, hnn]; omega
        have hm6' : (6 : Int) < nn := by omega
        have hcn1 : (nn : Int) ≤ c1 := by omega
        have hcn : c1 ≠ 6 := by omega
        have TT := Lib.hid (HTL.out _ hpm.symm (some ⟨ga, oa + 6, none⟩) (by rw [if_neg hcn]; simp [Addr.add]))
      all_goals
        go_enter Try.func115, Try.ntmps115
        clear HTL
        have HPM := Lib.hid hpm
        have HNN := Lib.hid hnn
        clear hpm hpl hnn
        go_wp2_with fail
        refine (clone_any _ _ _ (partD d) _ HPM.out ((HP.out.chg (Nat.le_refl _) ((Chg.refl (fun i => i = g) _).at_ (q := g) (Eq.refl g) _ _) (fun i hi e => HNE.out i hi e)).more (by simp)) (fun e => by cases e) (by omega)).mono ?_
        rintro e w5 ⟨A5, c5, rfl, ho5, hb5⟩
        go_wp2_with fail
        go_ret3
        exact ⟨A5, _, c5, by rw [← HNN.out]; rfl, HPM.out, ho5.more (by have := HCH.out.size; simp only [World.size_setCell]; omega), TT.out.1.below hb5, (HCH.out.trans TT.out.2).grow hb5⟩
set_option maxRecDepth 100000 in
set_option maxHeartbeats 4000000 in
theorem seed_zero {w : World} {B l : Nat} {Φ : Nat → Prop} {a : LX} (h : LAt w B Φ l a) (hB : B ≤ w.heap.size) (res : Int) (h0 : 0 ≤ res) (hr1 : res < 256) (A : Option Addr) (n c : Nat) (xs : List Int) (hx : xs.length = n) (hb : By B 5 w A (u8s xs)) (hu : by8 xs) :
    Calls Try.prog 115 #[.pointer (some ⟨l, 0, none⟩), .int .u8 0, .int .u8 res, .slice A n c] w (SeedP w B (fun w' i => Φ i ∨ (w.heap.size ≤ i ∧ i < w'.heap.size)) l (seedX a 0 res xs)) := by
  have hX : seedX a 0 res xs = if isRes res = false ∨ xs.length < 1 ∨ 20 < xs.length then (a, 0, [], 1)
    else if bits .and .u8 a.shut res = 0 then ({ a with out := none }, 0, [], 0)
    else ({ a with out := some (tellD ⟨xs, res, 0, []⟩) }, ((xs.length : Nat) : Int), partD ⟨xs, res, 0, []⟩, 0) := rfl
  rw [hX]
  by_cases hbad : isRes res = false ∨ xs.length < 1 ∨ 20 < xs.length
  · rw [if_pos hbad]
    have D := Lib.hid (draws_bad ⟨l, 0, none⟩ res A n c w h0 hr1 (by rw [← hx]; exact hbad))
    clear hbad
    go_enter Try.func115, Try.ntmps115
    go_wp2_with fail
    refine D.out.mono ?_
    rintro e w' ⟨rfl, rfl⟩
    go_wp2_with fail
    go_ret3
    exact ⟨none, 0, 0, rfl, rfl, Own.nil _ _ _ _, h.imp (fun i hi => .inl hi), ChT.refl _ _ _⟩
  · rw [if_neg hbad]
    have hres : isRes res = true := by
      cases hr : isRes res
      · exact absurd (.inl hr) hbad
      · rfl
    have hn1 : 1 ≤ n := by rw [← hx]; omega
    have hn2 : n ≤ 20 := by rw [← hx]; omega
    by_cases hz : bits .and .u8 a.shut res = 0
    · rw [if_pos hz]
      have D := Lib.hid (draws_free h res A n c hres hn1 hn2 hz)
      clear hbad hz hres
      go_enter Try.func115, Try.ntmps115
      go_wp2_with fail
      refine D.out.mono ?_
      rintro e w1 ⟨rfl, hL, hch⟩
      have hL2 := Lib.hid hL
      obtain ⟨-, -, p, hl, rfl⟩ := hL
      have cl2 : w1.cell? ⟨l, 2, none⟩ = some (.pointer none) := (hl.cell 2).trans rfl
      go_wp2_with fail
      go_ret3
      exact ⟨none, 0, 0, rfl, rfl, Own.nil _ _ _ _, hL2.out.imp (fun i hi => .inl hi), hch⟩
    · rw [if_neg hz]
      have D := Lib.hid (draws_ok h hB res A n c xs hres hx hn1 hn2 hz hb hu)
      have HX := Lib.hid hx
      clear hbad hz hres hx
      go_enter Try.func115, Try.ntmps115
      go_wp2_with fail
      refine D.out.mono ?_
      rintro e w1 ⟨rfl, hL, hch⟩
      obtain ⟨h1, h2, p, hl, hm⟩ := hL
      obtain ⟨aa, haa⟩ : ∃ aa : LX, aa = { a with out := some ⟨xs, res, 0, []⟩ } := ⟨_, rfl⟩
      obtain ⟨d, hd⟩ : ∃ d : Sd, d = ⟨xs, res, 0, []⟩ := ⟨_, rfl⟩
      rw [← haa] at h2
      dsimp only at hm
      rw [← hd] at hm haa
      have hl : Blk w1 l 109 #[.int .u8 aa.all, .int .u8 aa.shut, .pointer p] := by rw [haa]; exact hl
      obtain ⟨g, rfl, A1, c1, A2, n2, c2, A3, c3, hg, hb, h4, h5, hf1, hf3⟩ := hm
      have ho : aa.out = some d := by rw [haa]
      have htold : d.told ≠ d.s.length := by rw [hd]; show 0 ≠ xs.length; rw [HX.out]; omega
      have HFIN : Hid ((({ a with out := some (tellD ⟨xs, res, 0, []⟩) } : LX), ((xs.length : Nat) : Int), partD ⟨xs, res, 0, []⟩, (0 : Int)) = ({ aa with out := some (tellD d) }, ((d.s.length - d.told : Nat) : Int), partD d, 0)) := Lib.hid (by rw [haa, hd]; simp)
      clear haa hd
      have HNE : Hid (∀ i, blkOf A1 = some i → i ≠ g) := Lib.hid fun i hi => h4.ne_blk hi hb (by decide)

      have hok := h2.out d ho
      have hkl := hok.t
      obtain ⟨nn, hnn⟩ : ∃ nn, d.s.length - d.told = nn := ⟨_, rfl⟩
      have hpl := partD_len d
      have cl2 : w1.cell? ⟨l, 2, none⟩ = some (.pointer (some ⟨g, 0, none⟩)) := (hl.cell 2).trans rfl
      have cg1 : w1.cell? ⟨g, 1, none⟩ = some (.slice A1 nn c1) := by rw [← hnn]; exact (hb.cell 1).trans rfl
      have cgf := hb.frozen
      have hn0 : 0 < nn := by omega
      obtain ⟨ga, oa, rfl⟩ := h4.at_ (by rw [hnn]; exact hn0)
      have hcap := h4.2.1
      have hcap2 := h4.2.2.1
      unfold maxLen at hcap2
      rw [hnn] at hcap
      have HTL := Lib.hid fun m hm A hA => TrAt.tell hl h1 h2 ho hg hb h4 h5 hf1 hf3 m hm A hA
      have HP : Hid (Rd w1 w1.heap.size (some ⟨ga, oa, none⟩) (u8s (partD d))) := Lib.hid (h4.rd.take' 6)
      have hz : ((nn : Int) == 0) = false := beq_eq_false_iff_ne.2 (by omega)
      have hs20 := hok.s2
      have HO := Lib.hid ho
      have HCH := Lib.hid hch
      clear h5 hb hl ho hch h4
      rw [hnn] at HTL
      have hm6 : nn ≤ 6 ∨ 6 < nn := by omega
      rcases hm6 with hm6 | hm6
      case' inl =>
        have hpm : (partD d).length = nn := by rw [hpl, hnn]; omega
        have hm6' : (nn : Int) ≤ 6 := by omega
        by_cases hcn : c1 = nn
        case' pos =>
          subst hcn
          have tt := HTL.out _ hpm.symm (some ⟨ga, oa, none⟩) (by rw [if_pos rfl])
          simp only [Nat.sub_self] at tt
          have TT := Lib.hid tt
          clear tt
        case' neg =>
          have hcn1 : (nn : Int) ≤ c1 := by omega
          have tt := HTL.out _ hpm.symm (some ⟨ga, oa + nn, none⟩) (by rw [if_neg hcn]; simp [Addr.add]; omega)
          simp only [Nat.sub_self] at tt
          have TT := Lib.hid tt
          clear tt
      case' inr =>
        have hpm : (partD d).length = 6 := by rw [hpl, hnn]; omega
        have hm6' : (6 : Int) < nn := by omega
        have hcn1 : (nn : Int) ≤ c1 := by omega
        have hcn : c1 ≠ 6 := by omega
        have TT := Lib.hid (HTL.out _ hpm.symm (some ⟨ga, oa + 6, none⟩) (by rw [if_neg hcn]; simp [Addr.add]))
      all_goals
        clear HTL
        have HPM := Lib.hid hpm
        have HNN := Lib.hid hnn
        clear hpm hpl hnn
        go_wp2_with fail
        refine (clone_any _ _ _ (partD d) _ HPM.out ((HP.out.chg (Nat.le_refl _) ((Chg.refl (fun i => i = g) _).at_ (q := g) (Eq.refl g) _ _) (fun i hi e => HNE.out i hi e)).more (by simp)) (fun e => by cases e) (by omega)).mono ?_
        rintro e w5 ⟨A5, c5, rfl, ho5, hb5⟩
        go_wp2_with fail
        go_ret3
        rw [HFIN.out]
        exact ⟨A5, _, c5, by rw [← HNN.out]; rfl, HPM.out, ho5.more (by have := HCH.out.size; simp only [World.size_setCell]; omega), (TT.out.1.below hb5).imp (fun i hi => hi.imp id fun hx => ⟨hx.1, by have := hb5.size; simp only [World.size_setCell] at this; omega⟩), (HCH.out.trans TT.out.2).grow hb5⟩
end Go.Proofs.Yteecgdbicokgoaa
