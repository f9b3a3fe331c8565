/- The slave: upload of one part. -/
import Derived.Test.YteecgdbicokgoaaR0
import Derived.Test.YteecgdbicokgoaaP2
namespace Go.Proofs.Yteecgdbicokgoaa
open Go.RowKit Go.Shelf
set_option linter.unusedVariables false
set_option linter.unusedSimpArgs false
set_option maxRecDepth 100000
attribute [local go_sem] Oper.semAt_some
/-- One positive answer, wherever it lies. -/
def PosQ (w : World) (bs : List Int) (v : Value) (w' : World) : Prop := ∃ g o cc A c, v = .slice (some ⟨g, o, none⟩) 1 cc ∧ Own w' w.heap.size 82 3 (some ⟨g, o, none⟩) 1 cc [.int .u8 1, .int .u8 0, .slice A bs.length c] ∧ Own w' w.heap.size 5 1 A bs.length c (u8s bs)
def AnsQ (w : World) (L T s m l : Nat) (x : St) (bs : List Int) (e : Ending) (w' : World) : Prop := ∃ v, e = .returned v ∧ PosQ w bs v w' ∧ TA w' L T w'.heap.size s m l x ∧ ChS L T w w'
theorem Own.cap {w : World} {base : Nat} {e : TypeId} {size n c k : Nat} {A : Option Addr} {xs : List Value} (h : Own w base e size A n c xs) (hn : n ≤ k) (hk : k ≤ c) : Own w base e size A n k xs :=
  ⟨h.1, hn, Nat.le_trans hk h.2.2.1, (fun e => by have := h.2.2.2.1 e; omega), fun a e => by
    obtain ⟨g, off, cur, h1, h2, h3, h4, h5⟩ := h.2.2.2.2 a e
    exact ⟨g, off, cur, h1, h2, h3, Nat.le_trans (Nat.add_le_add_left (Nat.mul_le_mul_right _ hk) _) h4, h5⟩⟩
theorem LAt.off {w w' : World} {B l D : Nat} {Φ : Nat → Prop} {a : LX} (h : LAt w B Φ l a) (hg : w.grownBy w' (some D)) (hD : ∃ o : Obj, w.heap[D]? = some o ∧ o.isCells = false) : LAt w' B Φ l a := by
  have hr : ∀ r, some D = some r → 0 ≤ r ∧ ∃ o : Obj, w.heap[r]? = some o ∧ o.isCells = false := fun r e => by cases e; exact ⟨Nat.zero_le _, hD⟩
  obtain ⟨h1, h2, p, h3, h4⟩ := h
  refine ⟨h1, h2, p, blk_kept h3 hg hr, ?_⟩
  cases ho : a.out with
  | none => rw [ho] at h4; exact h4
  | some d =>
    rw [ho] at h4
    obtain ⟨g, hg', A1, c1, A2, n2, c2, A3, c3, q1, q2, q3, q4, q5, q6⟩ := h4
    exact ⟨g, hg', A1, c1, A2, n2, c2, A3, c3, q1, blk_kept q2 hg hr, own_kept' q3 hg hr, own_kept' q4 hg hr, q5, q6⟩
theorem TA.off {w w' : World} {L T N s m l D : Nat} {x : St} (h : TA w L T N s m l x) (hg : w.grownBy w' (some D)) (hD : ∃ o : Obj, w.heap[D]? = some o ∧ o.isCells = false) (hT : T ≤ D) : TA w' L T N s m l x :=
  ⟨h.k, blk_kept (B0 := 0) h.sl hg (fun r e => by cases e; exact ⟨Nat.zero_le _, hD⟩), h.mem.kept hg.size (fun q _ h2 => hg.block q (Nat.lt_of_lt_of_le h2 h.mem.tz) (by intro e; injection e with e; omega)), h.lk.off hg hD, h.ts, h.lt, Nat.le_trans h.n hg.size⟩
theorem info82 : (Try.prog.info? 82).map (fun i => (i.zero, i.size, i.bytes)) = some (some (.agg #[.int .u8 0, .int .u8 0, .slice none 0 0]), 3, 32) := by kernel_rfl
/-- What holds between two rounds of upload. -/
structure PU (bs : List Int) (n : Nat) (w0 : World) (go B1 g o c : Nat) (pre : List (Pix 7 n)) (W : World) : Prop where
  ex : (pre = [] ∧ Blk W go 78 #[.slice none 0 0]) ∨ (pre ≠ [] ∧ ∃ v, Blk W go 78 #[v] ∧ PosQ w0 bs v W)
  bel : Below w0.heap.size w0 W
  sz : B1 ≤ W.heap.size
  row : Own W (w0.heap.size + 1) 5 1 (some ⟨g, o, none⟩) n c (u8s bs)
theorem PU.own {bs : List Int} {n : Nat} {w0 : World} {go B0 B1 g o c : Nat} (hB : w0.heap.size ≤ B0) : OwnFrom B0 (PU bs n w0 go B1 g o c) := fun s A B row h hg hr => by
  refine ⟨?_, h.bel.grown hg h.bel.size (fun r e => by have := (hr r e).1; omega), Nat.le_trans h.sz hg.size, own_kept' h.row hg hr⟩
  rcases h.ex with ⟨h1, h2⟩ | ⟨h1, v, h2, g, o, cc, Ax, c, h3, h4, h5⟩
  · exact .inl ⟨h1, blk_kept h2 hg hr⟩
  · exact .inr ⟨h1, v, blk_kept h2 hg hr, g, o, cc, Ax, c, h3, own_kept' h4 hg hr, own_kept' h5 hg hr⟩
set_option maxHeartbeats 8000000 in
theorem sl_up {w : World} {L T N s m l : Nat} {x : St} (h : TA w L T N s m l x) {n : Nat} (hn1 : 1 ≤ n) (hn7 : n ≤ 7) {bs : List Int} (hr : readX x.M 2 x.area x.pt.toNat n = some bs) :
    Calls Try.prog 77 #[.pointer (some ⟨s, 0, none⟩), .int .i64 n] w (AnsQ w L T s m l { x with pt := (x.pt + n) % 4294967296 } bs) := by
  have SR := Lib.hid (sl_read (h.below (bl1 w (.cells #[.slice none 0 0] 78))) (n := n) (by omega) (by omega) hr)
  have HB := Lib.hid (And.intro h (bl1 w (.cells #[.slice none 0 0] 78)))
  have HG := Lib.hid (Blk.new w 78 #[.slice none 0 0])
  clear h hr
  refine (callsIn_wide (n := 6)).1 ?_
  refine callsIn_of_wp_marks Try.func77 rfl trivial ?_ rfl
  simp only [Try.ntmps77, List.size_toArray, List.length_cons, List.length_nil, Nat.reduceAdd, Nat.reduceSub, Array.replicate_succ, Array.replicate_zero, List.push_toArray, List.append_toArray, List.nil_append, List.cons_append]
  gi_wp2_with (refine ⟨trivial, ?_⟩; gi_at_call 107; refine (callsIn_wide.2 SR.out).mono ?_; rintro e w1 ⟨A, c, rfl, hbl, hO, hb⟩)
  refine ⟨trivial, ?_⟩
  obtain ⟨g, o, rfl⟩ := hO.at_ (by omega)
  refine (chunk_in Fence.wide _ trivial rfl (some ⟨g, o, none⟩) n c 7 (.inr rfl) w1).mono ?_
  rintro e w' ⟨rfl, rfl⟩
  have hb1 : Below w.heap.size w w1 := HB.out.2.trans (hb.mono HB.out.2.size)
  have hsz1 : w.heap.size + 1 ≤ w1.heap.size := by have := hb.size; simp at this; exact this
  have HO := Lib.hid (And.intro hbl (And.intro hO (And.intro hb1 hsz1)))
  have HG1 := Lib.hid (HG.out.below hb)
  have hnc : n ≤ c := hO.2.1
  clear hbl hO hb hb1 SR
  gi_wp2
  refine wpIn_rangeFunc_ownF rfl (by omega) (gf := 86) (lb := #[.pointer (some ⟨w1.heap.size, 0, none⟩), .pointer (some ⟨w1.heap.size + 1, 0, none⟩)]) rfl trivial (enters_of Try.func86 (by kernel_rfl) rfl)
    (chunk_stops _ (by omega) _ _ g o c 7 n (.inr rfl) (by omega) hnc _ ?b1 ?b2) (fun h k => h.t k) ?keep (Below.refl _ _) (fun _ => rfl)
    (PU bs n w w.heap.size (w1.heap.size + 2) g o c) (fun _ _ _ => False) (PU.own (by simp; omega)) (fun _ _ _ _ _ h _ _ => h) ?first
    (fun y => { tmps := #[.pointer (some ⟨s, 0, none⟩), .int .i64 n, undef, undef, .slice none 0 0, .pointer (some ⟨w.heap.size, 0, none⟩), parV g o 7 n y.1, .pointer (some ⟨s, 0, none⟩), .int .i64 n, .slice (some ⟨g, o, none⟩) n c,
      .func (.func 86) #[] #[.pointer (some ⟨w1.heap.size, 0, none⟩), .pointer (some ⟨w1.heap.size + 1, 0, none⟩)], parV g o 7 n y.1, undef, undef, undef, undef, undef, undef, undef, undef, undef, undef, undef, undef, undef, undef], defers := [] }) ?assign ?body ?done ?stop
  case stop =>
    rintro D cd pre W _ _ h _
    exact h.elim
  case b1 => exact (Blk.new w1 22 #[.slice (some ⟨g, o, none⟩) n c]).alloc _
  case b2 =>
    have h := Blk.new (w1.alloc (.cells #[.slice (some ⟨g, o, none⟩) n c] 22)) 3 #[.int .i64 7]
    simp only [World.size_alloc] at h
    exact h
  case keep =>
    intro W q ob ob' hq _ _ _
    simp only [World.size_alloc] at hq
    exact ⟨World.putObj_heap_other (by omega), World.putObj_heap_other (by omega)⟩
  case first =>
    refine ⟨.inl ⟨rfl, (HG1.out.alloc _).alloc _⟩, ?_, by simp, ((HO.out.2.1.more (base' := w.heap.size + 1) (by simp)).alloc _).alloc _⟩
    exact HO.out.2.2.1.trans ((bl2 w1 _ _).mono HO.out.2.2.1.size)
  case assign =>
    intro l x W K hK
    gi_wp2
    exact hK
  case done =>
    rintro D xs W hD rfl hPI hK
    have hne : pixL 7 n (parN 7 n) ≠ [] := fun e => by
      have h1 := congrArg List.length e
      rw [pixL_len _ (fun j hj => by unfold parN at hj; omega)] at h1
      simp only [List.length_nil] at h1
      unfold parN at h1
      omega
    rcases hPI.ex with ⟨h, _⟩ | ⟨_, v, hv, hQ⟩
    · exact absurd h hne
    have hTA := HB.out.1.below hPI.bel
    have hB : Blk W s 146 #[.pointer (some ⟨m, 0, none⟩), .pointer (some ⟨l, 0, none⟩), .bool x.on, .int .u8 x.area, .int .u32 x.pt, .int .i64 x.block] := hTA.sl
    have cB := hB.cell
    have fB := hB.frozen
    have cV := hv.cell
    have hxp := HB.out.1.k.p0
    have hxq := HB.out.1.k.p1
    have hwn : IntKind.u32.wrap (n : Int) = n := by rw [IntKind.wrap_u32]; omega
    have hwp : IntKind.u32.wrap (x.pt + n) = (x.pt + n) % 4294967296 := by rw [IntKind.wrap_u32]
    have HP := Lib.hid (And.intro hPI (And.intro hv (And.intro hQ hTA)))
    have HK := Lib.hid hK
    have HBB := Lib.hid hB
    have hgr : W.grownBy (W.setCell ⟨s, 4, none⟩ (.int .u32 ((x.pt + n) % 4294967296))) (some s) := grown_setCells s [.int .u32 ((x.pt + n) % 4294967296)] 4 W
    have hv2 := hv.grown hgr (by intro e; injection e with e; have := HB.out.1.sl.lt; omega)
    have cV2 := hv2.cell
    have HGR := Lib.hid hgr
    clear hPI hv hQ hTA hB hgr hK hv2 hne
    gi_wp2
    have hlD : D < W.heap.size := by
      rcases Nat.lt_or_ge D W.heap.size with h | h
      · exact h
      · have := HK.out; rw [Array.getElem?_eq_none h] at this; cases this
    have hsD : s ≠ D := fun e => by
      have h1 := HK.out
      have h2 := HBB.out
      unfold Blk at h2
      rw [e, h1] at h2
      cases h2
    have hK2 : (W.setCell ⟨s, 4, none⟩ (.int .u32 ((x.pt + n) % 4294967296))).heap[D]? = _ := (HGR.out.block D hlD (by intro e; injection e with e; exact hsD e.symm)).trans HK.out
    refine ⟨by simp, .inl ⟨_, _, rfl, run_takeDeferred hK2, ?_⟩⟩
    obtain ⟨hPI, hv, hQ, hTA⟩ := HP.out
    have hgD := grownBy_putObj' (W.setCell ⟨s, 4, none⟩ (.int .u32 ((x.pt + n) % 4294967296))) D (.deferred none)
    obtain ⟨T2, C2⟩ := hTA.slw (y := { x with pt := (x.pt + n) % 4294967296 }) ⟨rfl, rfl⟩ ⟨HB.out.1.k.a0, HB.out.1.k.a1, by show 0 ≤ (x.pt + n) % 4294967296; omega, by show (x.pt + n) % 4294967296 < 4294967296; omega⟩ (HBB.out.set_ 4 _) HGR.out
    have hDo : ∃ ob : Obj, (W.setCell ⟨s, 4, none⟩ (.int .u32 ((x.pt + n) % 4294967296))).heap[D]? = some ob ∧ ob.isCells = false := ⟨_, hK2, rfl⟩
    have hDw : w.heap.size ≤ D := by have := HO.out.2.2.2; simp at hD; omega
    have hTw : T ≤ w.heap.size := HB.out.1.tz
    have T3 := T2.off hgD hDo (by omega)
    have hr2 : ∀ r, some D = some r → 0 ≤ r ∧ ∃ o : Obj, (W.setCell ⟨s, 4, none⟩ (.int .u32 ((x.pt + n) % 4294967296))).heap[r]? = some o ∧ o.isCells = false := fun r e => by cases e; exact ⟨Nat.zero_le _, hDo⟩
    obtain ⟨gq, oq, kq, Aq, cq, rfl, hq1, hq2⟩ := hQ
    have hsw : s < w.heap.size := HB.out.1.sl.lt
    have q1 := own_kept' (hq1.grown HGR.out (.inr (fun e => by have := (hq1.lt e).1; omega))) hgD hr2
    have q2 := own_kept' (hq2.grown HGR.out (by
      rcases hA : blkOf Aq with _ | q
      · exact .inl rfl
      · exact .inr (fun e => by have := (hq2.lt (hA.trans e)).1; omega))) hgD hr2
    refine ⟨_, results_tmp rfl _ _ _, _, rfl, ⟨gq, oq, kq, Aq, cq, rfl, q1, q2⟩, T3.more (by have := T3.n; exact this) (Nat.le_refl _), ?_⟩
    refine Chg.trans (((ChR.of_below (hPI.bel) L [146, 109, 221] L T).trans C2)) (Chg.of_grown hgD) (fun i hi e => ?_)
    injection e with e
    omega
  case body =>
    rintro l pre y W hPI hpl
    have hpre : pre = [] := by
      have : parN 7 n = 1 := by unfold parN; omega
      rw [this] at hpl
      exact List.length_eq_zero_iff.1 (by omega)
    subst hpre
    have hy0 : y.1 = 0 := by have := y.2; omega
    have hpv : parV g o 7 n y.1 = .slice (some ⟨g, o, none⟩) n n := by
      unfold parV
      rw [hy0, Nat.mul_zero, Nat.sub_zero, Nat.add_zero, Nat.min_eq_right hn7]
    rw [hpv]
    have hgo : Blk W w.heap.size 78 #[.slice none 0 0] := by
      rcases hPI.ex with ⟨_, h⟩ | ⟨h, _⟩
      · exact h
      · exact absurd rfl h
    have hLO : ¬ LetsOut (Exit.inBlock 1 (ownPostK (KpB w1.heap.size (w1.heap.size + 1)) (PU bs n w w.heap.size (w1.heap.size + 2) g o c) (fun _ _ _ => False) ([] ++ [y]) W)) := fun ⟨_, _, h⟩ => h
    refine wpIn_block ?_
    have FIN : ∀ (A5 : Option Addr) (c5 : Nat) (w5 w6 : World), Own w5 (w.heap.size + 1) 82 3 A5 1 c5 [.int .u8 1, .int .u8 0, .slice (some ⟨g, o, none⟩) n n] → Below W.heap.size W w5 → Blk w6 w.heap.size 78 #[.slice A5 1 c5] → w5.grownBy w6 (some w.heap.size) → KeepsOthers W w6 ∧ KpB w1.heap.size (w1.heap.size + 1) W w6 ∧ PU bs n w w.heap.size (w1.heap.size + 2) g o c ([] ++ [y]) w6 := by
      intro A5 c5 w5 w6 ho5 hb5 g6 hg6
      have hch : Chg (fun i => i = w.heap.size) W w6 := (Chg.of_below hb5 _).trans (Chg.of_grown hg6) (fun i _ e => by injection e)
      obtain ⟨g5, o5, rfl⟩ := ho5.at_ (by decide)
      have hsz := hPI.sz
      have h1s := HO.out.2.2.2
      have hbl := HO.out.1
      have hlt5 := (ho5.lt (g := g5) rfl).1
      have hrow := hPI.row
      have hltg := (hrow.lt (g := g) rfl).1
      refine ⟨⟨hch.size, fun j ob hj ho => (hch.block j (Array.getElem?_eq_some_iff.1 hj).1 ?_).trans hj⟩, ⟨hch.block _ (by omega) (by show ¬ (_ = _); omega), hch.block _ (by omega) (by show ¬ (_ = _); omega)⟩, ⟨.inr ⟨by simp, _, g6, g5, o5, c5, some ⟨g, o, none⟩, n, rfl, ?_, ?_⟩, ?_, Nat.le_trans hsz hch.size, ?_⟩⟩
      · intro e
        subst e
        have hcs := hgo
        unfold Blk at hcs
        rw [hcs] at hj
        injection hj with hj
        subst hj
        cases ho
      · rw [hbl]
        exact (ho5.grown hg6 (.inr (fun e => by injection e with e; simp at e; omega))).more (by omega)
      · rw [hbl]
        exact ((hrow.cap (Nat.le_refl _) hnc).more (by omega)).chg hch (fun q hq e => by have := (hrow.lt hq).1; omega)
      · exact hPI.bel.trans ((hch.below (fun i _ e => by omega) (by omega)).mono (Nat.le_refl _))
      · exact hrow.chg hch (fun q hq e => by have := (hrow.lt hq).1; omega)
    refine region_round (S := fun _ => True) (by kernel_rfl) (by kernel_rfl) hLO ?_
    have hbW : Below W.heap.size W W.drew := (Below.refl _ _).drew
    have hgd := hgo.drew
    have HBL := Lib.hid HO.out.1
    have hsz : w.heap.size + 1 ≤ W.heap.size := by have := hPI.sz; omega
    clear hPI
    refine wpAnyH_take (i := 1) (oi := _) (v := ?_) rfl (by kernel_rfl) (by kernel_rfl) (by kernel_rfl) (fun _ _ _ h => h) (Or.inl ⟨by rfl, ?_⟩) trivial ?_
    rotate_left
    · intro w' hSw
      go_simp
      first | done | with_reducible rfl
    try simp only [Act.put, List.setIfInBounds_toArray, List.set_cons_zero, List.set_cons_succ]
    refine wpAnyH_ready (rs := [0, 2]) (by kernel_rfl) (by simp) ?_
    refine AllReadyH.cons rfl (fun K0 hK0 => ?_) (AllReadyH.cons rfl (fun K2 hK2 => ?_) AllReadyH.nil)
    · have zc0 := hgd.cell
      go_simp
      refine hK0.out _ _ trivial (fun hH0 => ?_)
      try simp only [Act.put, List.setIfInBounds_toArray, List.set_cons_zero, List.set_cons_succ]
      refine wpAnyH_ready (rs := [2]) (by kernel_rfl) (by simp) ?_
      refine AllReadyH.cons rfl (fun K2 hK2 => ?_) AllReadyH.nil
      go_simp
      refine (pos_any _ _ _ _).mono ?_
      rintro e w2 ⟨rfl, hw2⟩
      have P2 : Blk w2 W.heap.size 82 #[.int .u8 1, .int .u8 0, .slice (some ⟨g, o, none⟩) n n] := hw2 ▸ Blk.new W.drew 82 _
      have b2 : Below W.heap.size W w2 := hw2 ▸ hbW.alloc hbW.size _
      have g2 : Blk w2 w.heap.size 78 #[.slice none 0 0] := hgo.below b2
      clear hw2
      refine hK2.out _ _ trivial (fun hH2 => ?_)
      try simp only [Act.put, List.setIfInBounds_toArray, List.set_cons_zero, List.set_cons_succ]
      have R2 := Blk.rd (cs := [.int .u8 1, .int .u8 0, .slice (some ⟨g, o, none⟩) n n]) P2
      refine wpAnyH_ready (rs := [3]) (by kernel_rfl) (by simp) ?_
      refine AllReadyH.cons rfl (fun K3 hK3 => ?_) AllReadyH.nil
      rw [if_pos (by rfl)]
      refine wp_app w2 (.tmp 12) (.tmp 14) 78 rfl (w.heap.size + 1) 82 (.agg #[.int .u8 0, .int .u8 0, .slice none 0 0]) 3 32 Try.underlying78 info82 rfl (by decide) none 0 0 [] rfl (Own.nil _ _ _ _) _ (some ⟨W.heap.size, 0, none⟩) 1 1 [.int .u8 1, .int .u8 0, .slice (some ⟨g, o, none⟩) n n] rfl rfl R2 (by simp [Value.oneCell']) (by decide) (by decide) (Nat.le_trans hsz b2.size) ?_
      intro A5 c5 w5 ho5 hg5 hbk5
      have g5 := g2.grown hg5 (by intro e; cases e)
      have hb5 : Below W.heap.size W w5 := b2.trans ((⟨hg5.os, hg5.tape, hg5.output, hg5.size, fun j hj => hg5.block j hj (by simp [blkOf])⟩ : Below w2.heap.size w2 w5).mono b2.size)
      refine hK3.out _ _ trivial (fun hH3 => ?_)
      try simp only [Act.put, List.setIfInBounds_toArray, List.set_cons_zero, List.set_cons_succ]
      refine wpAnyH_ready (rs := [4]) (by kernel_rfl) (by simp) ?_
      refine AllReadyH.cons rfl (fun K4 hK4 => ?_) AllReadyH.nil
      rw [if_pos (by rfl)]
      refine wp_stB 78 (.tmp 5) (.tmp 15) rfl (.slice A5 (0 + 1) c5) 0 rfl rfl g5 (by simp [Value.cells]) (by kernel_rfl) (by simp [Value.cells, Value.oneCell']) ?_
      intro w6 g6 hg6
      refine hK4.out _ _ trivial (fun hH4 => ?_)
      try simp only [Act.put, List.setIfInBounds_toArray, List.set_cons_zero, List.set_cons_succ]
      exact ⟨rfl, FIN A5 c5 w5 w6 ho5 hb5 g6 hg6⟩
    · go_simp
      refine (pos_any _ _ _ _).mono ?_
      rintro e w2 ⟨rfl, hw2⟩
      have P2 : Blk w2 W.heap.size 82 #[.int .u8 1, .int .u8 0, .slice (some ⟨g, o, none⟩) n n] := hw2 ▸ Blk.new W.drew 82 _
      have b2 : Below W.heap.size W w2 := hw2 ▸ hbW.alloc hbW.size _
      have g2 : Blk w2 w.heap.size 78 #[.slice none 0 0] := hgo.below b2
      clear hw2
      refine hK2.out _ _ trivial (fun hH2 => ?_)
      try simp only [Act.put, List.setIfInBounds_toArray, List.set_cons_zero, List.set_cons_succ]
      refine wpAnyH_ready (rs := [0]) (by kernel_rfl) (by simp) ?_
      refine AllReadyH.cons rfl (fun K0 hK0 => ?_) AllReadyH.nil
      have zc0 := g2.cell
      go_simp
      refine hK0.out _ _ trivial (fun hH0 => ?_)
      try simp only [Act.put, List.setIfInBounds_toArray, List.set_cons_zero, List.set_cons_succ]
      have R2 := Blk.rd (cs := [.int .u8 1, .int .u8 0, .slice (some ⟨g, o, none⟩) n n]) P2
      refine wpAnyH_ready (rs := [3]) (by kernel_rfl) (by simp) ?_
      refine AllReadyH.cons rfl (fun K3 hK3 => ?_) AllReadyH.nil
      rw [if_pos (by rfl)]
      refine wp_app w2 (.tmp 12) (.tmp 14) 78 rfl (w.heap.size + 1) 82 (.agg #[.int .u8 0, .int .u8 0, .slice none 0 0]) 3 32 Try.underlying78 info82 rfl (by decide) none 0 0 [] rfl (Own.nil _ _ _ _) _ (some ⟨W.heap.size, 0, none⟩) 1 1 [.int .u8 1, .int .u8 0, .slice (some ⟨g, o, none⟩) n n] rfl rfl R2 (by simp [Value.oneCell']) (by decide) (by decide) (Nat.le_trans hsz b2.size) ?_
      intro A5 c5 w5 ho5 hg5 hbk5
      have g5 := g2.grown hg5 (by intro e; cases e)
      have hb5 : Below W.heap.size W w5 := b2.trans ((⟨hg5.os, hg5.tape, hg5.output, hg5.size, fun j hj => hg5.block j hj (by simp [blkOf])⟩ : Below w2.heap.size w2 w5).mono b2.size)
      refine hK3.out _ _ trivial (fun hH3 => ?_)
      try simp only [Act.put, List.setIfInBounds_toArray, List.set_cons_zero, List.set_cons_succ]
      refine wpAnyH_ready (rs := [4]) (by kernel_rfl) (by simp) ?_
      refine AllReadyH.cons rfl (fun K4 hK4 => ?_) AllReadyH.nil
      rw [if_pos (by rfl)]
      refine wp_stB 78 (.tmp 5) (.tmp 15) rfl (.slice A5 (0 + 1) c5) 0 rfl rfl g5 (by simp [Value.cells]) (by kernel_rfl) (by simp [Value.cells, Value.oneCell']) ?_
      intro w6 g6 hg6
      refine hK4.out _ _ trivial (fun hH4 => ?_)
      try simp only [Act.put, List.setIfInBounds_toArray, List.set_cons_zero, List.set_cons_succ]
      exact ⟨rfl, FIN A5 c5 w5 w6 ho5 hb5 g6 hg6⟩
end Go.Proofs.Yteecgdbicokgoaa
