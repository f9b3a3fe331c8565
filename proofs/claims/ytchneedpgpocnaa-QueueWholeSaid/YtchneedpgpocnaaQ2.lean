/- Queue.Put. -/
import Derived.Test.YtchneedpgpocnaaQ1
namespace Go.Proofs.Ytchneedpgpocnaa
open Go.RowKit
set_option linter.unusedVariables false
set_option linter.unusedSimpArgs false
theorem info31 : (Try.prog.info? 31).map (fun i => (i.zero, i.size, i.bytes)) = some (some (.agg #[.int .u8 0, .int .u8 0, .slice none 0 0]), 3, 32) := by kernel_rfl
theorem qcs_at (most : Int) (A : Option Addr) (n c : Nat) (lost : List Bool) (j : Nat) (b : Bool) (h : lost[j]? = some b) : (qcs most A n c lost)[2 + j]? = some (.bool b) := by
  rw [Nat.add_comm]
  simp [qcs, h]
theorem qcs_set (most : Int) (A : Option Addr) (n c : Nat) (lost : List Bool) (j : Nat) (b : Bool) : (qcs most A n c lost).setIfInBounds (2 + j) (.bool b) = qcs most A n c (lost.set j b) := by
  rw [Nat.add_comm]
  simp [qcs, List.map_set]
theorem qcs_l (most : Int) (A : Option Addr) (n c : Nat) (lost : List Bool) (A' : Option Addr) (n' c' : Nat) : (qcs most A n c lost).setIfInBounds 1 (.slice A' n' c') = qcs most A' n' c' lost := by
  simp [qcs]
theorem Qat.drewN {w : World} {base q : Nat} {A : Option Addr} {c : Nat} {s : Qs} (h : Qat w base q A c s) (n : Nat) : Qat (w.drewN n) base q A c s := h.below (bel_drewN (Below.refl _ _) n)
theorem Qat.lost_ {w : World} {base q : Nat} {A : Option Addr} {c : Nat} {s : Qs} (h : Qat w base q A c s) (j : Nat) (b : Bool) : Qat (w.setCell ⟨q, 2 + j, none⟩ (.bool b)) base q A c { s with lost := s.lost.set j b } := by
  have hc : Chg (fun g => g = q) w (w.setCell ⟨q, 2 + j, none⟩ (.bool b)) := (Chg.refl (fun g => g = q) _).at_ (q := q) (Eq.refl q) _ _
  refine ⟨?_, h.own.chg hc (fun g hg he => h.own.ne_blk hg h.blk (by decide) he), h.its.chg hc (fun g hg _ => by subst hg; exact ⟨54, _, h.blk, by decide⟩), by rw [List.length_set]; exact h.four⟩
  have := h.blk.set_ (2 + j) (.bool b)
  rw [qcs_set] at this
  exact this
theorem Rd.new (w : World) (vs : List Value) (t : TypeId) : Rd (w.alloc (.cells vs.toArray t)) (w.heap.size + 1) (some ⟨w.heap.size, 0, none⟩) vs := fun _ =>
  ⟨w.heap.size, 0, rfl, by omega, fun i v hv => by
    rw [World.cell?_alloc_at _ _ _ _ rfl]
    simpa using hv⟩
theorem take_snoc' {α : Type} (zs : List α) (k : Nat) (x : α) (h : zs[k]? = some x) : zs.take (k + 1) = zs.take k ++ [x] := by
  obtain ⟨hl, rfl⟩ := List.getElem?_eq_some_iff.1 h
  exact List.take_succ_eq_append_getElem hl
theorem cellsL_code : ∀ (l : List It) (t : It) (r : List It) (x : Int), (cellsL (l ++ t :: r)).set (l.length * 3 + 1) (.int .u8 x) = cellsL (l ++ { t with code := x } :: r)
  | [], t, r, x => rfl
  | u :: l, t, r, x => by
    rw [show (u :: l).length * 3 + 1 = (l.length * 3 + 1) + 1 + 1 + 1 by simp only [List.length_cons]; omega]
    simp only [List.cons_append, cellsL, List.set_cons_succ]
    rw [cellsL_code l t r x]
theorem three_one (x y : Int) (A : Option Addr) (n c : Nat) : ∀ u ∈ [Value.int .u8 x, .int .u8 y, .slice A n c], u.oneCell' = true := by
  intro u hu
  simp only [List.mem_cons, List.not_mem_nil, or_false] at hu
  rcases hu with rfl | rfl | rfl <;> rfl
/-- A packet behind the others. -/
theorem Qat.push {w w' : World} {base q : Nat} {A A' : Option Addr} {c c' : Nat} {s : Qs} (h : Qat w base q A c s) (hg : w.grownBy w' (blkOf A)) (t : It) (ho : Own w' base 31 3 A' (s.l.length + 1) c' (cellsL (s.l ++ [t])))
    (ht : t.b.length = t.n ∧ t.n ≤ 1000000 ∧ Own w base 5 1 t.A t.n t.c (u8s t.b)) : Qat (w'.setCell ⟨q, 1, none⟩ (.slice A' (s.l.length + 1) c')) base q A' c' { s with l := s.l ++ [t] } := by
  have hq := own_blk_ne h.own h.blk (by decide)
  have hB := h.blk.grown hg hq
  have hits : ItOk w' base (s.l ++ [t]) := by
    have h0 : ItOk w base (s.l ++ [t]) := fun u hu => by
      rcases List.mem_append.1 hu with hu | hu
      · exact h.its u hu
      · simp at hu; subst hu; exact ht
    intro u hu
    obtain ⟨h1, h2, h3⟩ := h0 u hu
    exact ⟨h1, h2, h3.grown hg (own_own_ne h3 h.own (by decide))⟩
  have hc : Chg (fun g => g = q) w' (w'.setCell ⟨q, 1, none⟩ (.slice A' (s.l.length + 1) c')) := (Chg.refl (fun g => g = q) _).at_ (q := q) (Eq.refl q) _ _
  refine ⟨?_, ?_, hits.chg hc (fun g hg _ => by subst hg; exact ⟨54, _, hB, by decide⟩), h.four⟩
  · have := hB.set_ 1 (.slice A' (s.l.length + 1) c')
    rw [qcs_l] at this
    rw [List.length_append]
    exact this
  · rw [List.length_append]
    exact ho.chg hc (fun g hg he => ho.ne_blk hg hB (by decide) he)
theorem Rd.chgN {F : Nat → Prop} {w w' : World} {B : Nat} {A : Option Addr} {vs : List Value} (h : Rd w B A vs) (hB : B ≤ w.heap.size) (hc : Chg F w w') (hg : ∀ g, blkOf A = some g → vs ≠ [] → ¬ F g) : Rd w' B A vs := fun hn => by
  obtain ⟨b, o, e, hb, hcell⟩ := h hn
  refine ⟨b, o, e, hb, fun i u hu => ?_⟩
  rw [← hcell i u hu]
  exact World.cell?_of_block (a := ⟨b, o + i, none⟩) (hc.block b (by omega) (hg b (by rw [e]; rfl) hn))
theorem put_nil (list : Int) (v : Value) (w : World) : Calls Try.prog 12 #[.pointer none, .int .i64 list, v] w fun e w' => e = .returned (.bool false) ∧ w = w' := by
  go_enter Try.func12, Try.ntmps12
  go_wp2
  go_ret
  exact ⟨rfl, rfl⟩
set_option maxRecDepth 100000 in
set_option maxHeartbeats 1000000 in
theorem put_no (q : Addr) (list : Int) (A : Option Addr) (n c : Nat) (l : List It) (w : World) (hx : l.length = n) (hl : n ≤ maxLen) (hr : Rd w w.heap.size A (cellsL l)) (h : list < 0 ∨ 4 ≤ list ∨ n = 0 ∨ bad l = true) :
    Calls Try.prog 12 #[.pointer (some q), .int .i64 list, .slice A n c] w fun e w' => e = .returned (.bool false) ∧ Below w.heap.size w w' := by
  have C := Lib.hid (contains_any A n c l w hx hl hr)
  by_cases h1 : list < 0
  · go_enter Try.func12, Try.ntmps12
    go_wp2_with fail
    go_ret
    exact ⟨rfl, Below.refl _ _⟩
  · have h1' : 0 ≤ list := by omega
    by_cases h2 : 4 ≤ list
    · go_enter Try.func12, Try.ntmps12
      go_wp2_with fail
      go_ret
      exact ⟨rfl, Below.refl _ _⟩
    · have h2' : list < 4 := by omega
      by_cases h3 : n = 0
      · subst h3
        go_enter Try.func12, Try.ntmps12
        go_wp2_with fail
        go_ret
        exact ⟨rfl, Below.refl _ _⟩
      · have h4 : bad l = true := by
          rcases h with h | h | h | h
          · omega
          · omega
          · omega
          · exact h
        rw [h4] at C
        have h3' : ((n : Int) == 0) = false := by simp; omega
        clear h h4
        go_enter Try.func12, Try.ntmps12
        go_wp2_with fail
        refine C.out.mono ?_
        rintro e w' ⟨rfl, hb⟩
        go_wp2_with fail
        go_ret
        exact ⟨rfl, hb⟩
set_option maxRecDepth 100000 in
set_option maxHeartbeats 1000000 in
theorem put_full (base q : Nat) (AQ : Option Addr) (cQ : Nat) (s : Qs) (j : Nat) (A : Option Addr) (n c : Nat) (l : List It) (w : World) (hQ : Qat w base q AQ cQ s) (hj : j < 4) (hx : l.length = n) (hn : 0 < n) (hl : n ≤ 1000000) (hr : Rd w w.heap.size A (cellsL l)) (hb : bad l = false)
    (hs : s.l.length ≤ 1000000) (hm : s.most < s.l.length + n) :
    Calls Try.prog 12 #[.pointer (some ⟨q, 0, none⟩), .int .i64 j, .slice A n c] w fun e w' => e = .returned (.bool false) ∧ Qat w' base q AQ cQ { s with lost := s.lost.set j true } ∧ Chg (fun g => g = q) w w' := by
  have C := Lib.hid (contains_any A n c l w hx (by unfold maxLen; omega) hr)
  rw [hb] at C
  have h3' : ((n : Int) == 0) = false := by simp; omega
  have h1' : 0 ≤ (j : Int) := by omega
  have h2' : (j : Int) < 4 := by omega
  clear hx hb
  go_enter Try.func12, Try.ntmps12
  go_wp2_with fail
  refine C.out.mono ?_
  rintro e w1 ⟨rfl, hb⟩
  have hQ1 := hQ.below hb
  obtain ⟨c0, c1⟩ := hQ1.c0
  have hf := hQ1.blk.frozen
  obtain ⟨b, hb4⟩ : ∃ b, s.lost[j]? = some b := ⟨_, List.getElem?_eq_getElem (by rw [hQ.four]; exact hj)⟩
  have cj : w1.cell? ⟨q, 2 + j, none⟩ = some (.bool b) := (hQ1.blk.cell _).trans (qcs_at _ _ _ _ _ _ _ hb4)
  have hw1 : IntKind.i64.wrap ((s.l.length : Int) + n) = (s.l.length : Int) + n := by rw [IntKind.wrap_i64]; omega
  clear hb4
  go_wp2_with fail
  go_quiet (fail)
  go_wp2_with fail
  go_ret
  exact ⟨rfl, (hQ1.drewN nq).lost_ j true, ((Chg.of_below hb (fun g => g = q)).drewN nq).at_ (q := q) (Eq.refl q) _ _⟩
def bumpK (b : Bool) : List (Int × Int × List Int) → List (Int × Int × List Int)
  | [] => []
  | (x, y, z) :: r => if b then (x, y + 64, z) :: r else (x, y, z) :: r
def PutP (w : World) (base q : Nat) (AQ : Option Addr) (s : Qs) (j : Nat) (l : List It) (e : Ending) (w' : World) : Prop := ∃ A' c' l', e = .returned (.bool true) ∧ Qat w' base q A' c' ⟨s.most, s.l ++ l', s.lost.set j false⟩ ∧ l'.map It.key = bumpK (s.lost.getD j false) (l.map It.key) ∧ Chg (qF q AQ) w w' ∧ (blkOf A' = blkOf AQ ∨ ∃ g, blkOf A' = some g ∧ w.heap.size ≤ g)
set_option maxRecDepth 100000 in
set_option maxHeartbeats 4000000 in
theorem put_ok (base q : Nat) (AQ : Option Addr) (cQ : Nat) (s : Qs) (j : Nat) (A : Option Addr) (n c : Nat) (l : List It) (w : World) (hQ : Qat w base q AQ cQ s) (hbase : base ≤ w.heap.size) (hj : j < 4) (hx : l.length = n) (hn : 0 < n) (hl : n ≤ 1000000) (hr : Rd w w.heap.size A (cellsL l)) (hit : ItRd w l) (hb : bad l = false) (hwf : ∀ t ∈ l, 0 ≤ t.code)
    (hin : ∀ g, (blkOf A = some g ∨ ∃ t ∈ l, t.b ≠ [] ∧ blkOf t.A = some g) → ¬ qF q AQ g) (hs : s.l.length ≤ 1000000) (hm : s.l.length + n ≤ s.most) :
    Calls Try.prog 12 #[.pointer (some ⟨q, 0, none⟩), .int .i64 j, .slice A n c] w (PutP w base q AQ s j l) := by
  have C := Lib.hid (contains_any A n c l w hx (by unfold maxLen; omega) hr)
  rw [hb] at C
  have h3' : ((n : Int) == 0) = false := by simp; omega
  have h1' : 0 ≤ (j : Int) := by omega
  have h2' : (j : Int) < 4 := by omega
  have hd1 : decide ((j : Int) < 0) = false := by simp
  have hd2 : decide (4 ≤ (j : Int)) = false := by simp; omega
  have HX := Lib.hid hx
  clear hx
  go_enter Try.func12, Try.ntmps12
  go_wp2_with fail
  refine C.out.mono ?_
  rintro e w1 ⟨rfl, hb1⟩
  have hQ1 := hQ.below hb1
  obtain ⟨c0, c1⟩ := hQ1.c0
  have hw1 : IntKind.i64.wrap ((s.l.length : Int) + n) = (s.l.length : Int) + n := by rw [IntKind.wrap_i64]; omega
  have hm' : ¬ s.most < (s.l.length : Int) + n := by omega
  have hm2 : (s.l.length : Int) + n ≤ s.most := by omega
  have hd : decide (s.most < (s.l.length : Int) + n) = false := by simpa using hm'
  go_wp2_with fail
  go_quiet (fail)
  have c0q : (w1.drewN nq).cell? ⟨q, 0, none⟩ = some (.int .i64 s.most) := c0
  have c1q : (w1.drewN nq).cell? ⟨q, 1, none⟩ = some (.slice AQ s.l.length cQ) := c1
  go_wp2_with fail
  have hQ2 := hQ1.drewN nq
  have hb2 := bel_drewN hb1 nq
  generalize w1.drewN nq = w2 at *
  clear c0 c1 c0q c1q hw1 hd hm2 hQ1 hb1
  have HK0 : Hid (([] : List It).map It.key = (l.take 0).map It.key) := rfl
  go_loopw [54] (fun i wr => ∃ (k : Nat) (A' : Option Addr) (c' : Nat) (l' : List It), k ≤ n ∧ i = .int .i64 k ∧ Qat wr base q A' c' ⟨s.most, s.l ++ l', s.lost⟩ ∧ l'.map It.key = (l.take k).map It.key ∧ Chg (qF q AQ) w wr ∧ (blkOf A' = blkOf AQ ∨ ∃ g, blkOf A' = some g ∧ w.heap.size ≤ g)) (fun i _ => n - (intOf i).toNat)
  case atStart => exact ⟨0, AQ, cQ, [], Nat.zero_le _, rfl, by simpa using hQ2, HK0.out, Chg.of_below hb2 _, .inl rfl⟩
  case round =>
    obtain ⟨k, A', c', l', hk, rfl, hQr, hkey, hch, hbk⟩ := hrel
    have HKey := Lib.hid hkey
    have hll : l'.length = k := by
      have := congrArg List.length hkey
      simpa [HX.out, hk] using this
    have HLL := Lib.hid hll
    clear hkey hll
    by_cases hlt : k < n
    · have hlt' : (k : Int) < n := by omega
      obtain ⟨t, ht⟩ : ∃ t, l[k]? = some t := ⟨_, List.getElem?_eq_getElem (by rw [HX.out]; exact hlt)⟩
      have htm := List.mem_of_getElem? ht
      obtain ⟨i1, i2, i3, i4, i5, i6⟩ := hit t htm
      have hrr : Rd wr w.heap.size A (cellsL l) := hr.chg (Nat.le_refl _) hch (fun g hg => hin g (.inl hg))
      obtain ⟨b, o, rfl, -, hc⟩ := hrr (by intro h; have h2 := cellsL_len l; rw [h, HX.out] at h2; simp at h2; omega)
      obtain ⟨g0, g1, g2⟩ := cellsL_get l k t ht
      have q0 := hc _ _ g0
      have q1 := hc _ _ g1
      have q2 := hc _ _ g2
      rw [← Nat.add_assoc] at q1 q2
      have hrt : Rd wr wr.heap.size t.A (u8s t.b) := (i4.chgN (Nat.le_refl _) hch (fun g hg hne => hin g (.inr ⟨t, htm, fun h => hne (by rw [h]; rfl), hg⟩))).more hch.size
      have HT := Lib.hid ht
      clear ht hc g0 g1 g2 hrr
      go_wp2_with fail
      refine (clone_n t.A t.n t.c t.b _ i1 (hrt.al _) i3 i2).mono ?_
      rintro e w3 ⟨A3, c3, rfl, ho3, hb3⟩
      have BR : Blk w3 wr.heap.size 31 #[.int .u8 t.kind, .int .u8 t.code, .slice t.A t.n t.c] := Blk.new_below hb3
      have hb3' := bel1 hb3
      have hQ3 := hQr.below hb3'
      have bc := BR.cell
      have bf := BR.frozen
      have HIT : Hid (t.b.length = t.n ∧ t.n ≤ 1000000 ∧ Own w3 base 5 1 A3 t.n c3 (u8s t.b)) := ⟨i1, i2, ho3.more (by simp; have := hch.size; omega)⟩
      have hz3 := hb3'.size
      obtain ⟨q0', q1'⟩ := hQ3.c0
      have qf := hQ3.blk.frozen
      go_wp2_with fail
      refine wp_named fun W hW => ?_
      have hcW : Chg (fun g => g = wr.heap.size) w3 W := by rw [hW]; exact (Chg.refl (fun g => g = wr.heap.size) _).at_ (q := wr.heap.size) (Eq.refl _) _ _
      have BRW : Blk W wr.heap.size 31 #[.int .u8 t.kind, .int .u8 t.code, .slice A3 t.n c3] := by rw [hW]; exact BR.set_ 2 _
      have hQW : Qat W base q A' c' ⟨s.most, s.l ++ l', s.lost⟩ := hQ3.chg hcW (fun e => by have := hQr.blk.lt; omega) (fun g hg e => by have := (hQr.own.lt hg).2; omega) (fun g hg _ => by subst hg; exact ⟨31, _, BR, by decide⟩)
      have HIW : Hid (t.b.length = t.n ∧ t.n ≤ 1000000 ∧ Own W base 5 1 A3 t.n c3 (u8s t.b)) := ⟨i1, i2, HIT.out.2.2.chg hcW (fun g hg e => HIT.out.2.2.ne_blk hg BR (by decide) e)⟩
      have hchW : Chg (qF q AQ) w W := (hch.grow hb3').trans hcW (fun i hi e => by have := hch.size; omega)
      have hzW : w.heap.size ≤ W.heap.size := hchW.size
      clear hW q0' q1' qf bc bf BR HIT hQ3 hcW hb3 hb3' hz3 ho3
      obtain ⟨q0', q1'⟩ := hQW.c0
      have q1a : ∀ o, (W.alloc o).cell? ⟨q, 1, none⟩ = some (.slice A' (s.l ++ l').length c') := fun o => ((hQW.blk.alloc o).cell 1).trans rfl
      have bc := BRW.cell
      have hqb := hQW.blk
      have hqo := hQW.own
      have hqn := own_blk_ne hqo hqb (by decide)
      have hbz : base ≤ W.heap.size := by omega
      have hLL : (s.l ++ l').length = s.l.length + k := by rw [List.length_append, HLL.out]
      have hLm : (s.l ++ l').length ≤ 2000000 := by omega
      clear hLL
      generalize hP : s.l ++ l' = P at *
      go_region_law (first
        | (refine step_app _ rfl (.tmp 66) (.tmp 68) 28 rfl base 31 (.agg #[.int .u8 0, .int .u8 0, .slice none 0 0]) 3 32 Try.underlying28 info31 rfl (by decide) A' P.length c' _ rfl ((hqo.alloc _).drew) _ _ 1 1 _ rfl rfl (Rd.new _ [.int .u8 t.kind, .int .u8 t.code, .slice A3 t.n c3] 31) (three_one _ _ _ _ _) (by unfold maxLen; omega) (by omega) (by simp only [World.size_drew, World.size_alloc]; omega) ?_; intro A5 c5 w5 ho5 hg5 hbk5; have B5 := ((hqb.alloc _).drew).grown hg5 hqn; have b5 : w5.cell? ⟨q, 1, none⟩ = some (.slice A' P.length c') := (B5.cell 1).trans rfl; have f5 := B5.frozen 1))
      all_goals
        go_wp2_with fail
        go_roundw
        case rel =>
          have hPd : Qat ((W.alloc (.cells #[.int .u8 t.kind, .int .u8 t.code, .slice A3 t.n c3] 31)).drew) base q A' c' ⟨s.most, P, s.lost⟩ := hQW.below (((Below.refl _ _).alloc (Nat.le_refl _) _).drew)
          have hI2 := HIW.out
          refine ⟨k + 1, A5, c5, l' ++ [⟨t.kind, t.code, A3, t.n, c3, t.b⟩], by omega, by go_num, ?_, ?_, ?_, ?_⟩
          · rw [← List.append_assoc, hP]
            refine Qat.push hPd hg5 ⟨t.kind, t.code, A3, t.n, c3, t.b⟩ ?_ ⟨hI2.1, hI2.2.1, (hI2.2.2.alloc _).drew⟩
            rw [cellsL_app]
            exact ho5
          · rw [List.map_append, HKey.out, take_snoc' l k t HT.out, List.map_append]
            rfl
          · refine (((hchW.alloc _).drew).trans (Chg.of_grown hg5) (fun i hi e => ?_)).at_ (.inl rfl) _ _
            rcases hbk with h | ⟨g, h, h2⟩
            · exact .inr (by rw [← h]; exact e.symm)
            · rw [h] at e
              injection e with e
              omega
          · rcases hbk5 with h | h
            · rw [h]; exact hbk
            · refine .inr ⟨_, h, ?_⟩
              simp only [World.size_drew, World.size_alloc]
              omega
        case measure => simp [intOf]; omega
    · obtain rfl : k = n := by omega
      have hkeys : l'.map It.key = l.map It.key := by rw [HKey.out, List.take_of_length_le (by rw [HX.out]; exact Nat.le_refl _)]
      obtain ⟨b, hb4⟩ : ∃ b, s.lost[j]? = some b := ⟨_, List.getElem?_eq_getElem (by rw [hQ.four]; exact hj)⟩
      have cj : wr.cell? ⟨q, 2 + j, none⟩ = some (.bool b) := (hQr.blk.cell _).trans (qcs_at _ _ _ _ _ _ _ hb4)
      have hbd : s.lost.getD j false = b := by rw [List.getD_eq_getElem?_getD, hb4]; rfl
      have HBD := Lib.hid hbd
      have HB4 := Lib.hid hb4
      have HKS := Lib.hid hkeys
      clear hkeys hbd hb4 HKey HK0
      cases b
      · go_wp2_with fail
        go_ret
        refine ⟨A', c', l', rfl, ?_, ?_, hch, hbk⟩
        · have : s.lost.set j false = s.lost := by
            apply List.ext_getElem?
            intro i
            by_cases h : j = i
            · subst h; rw [List.getElem?_set_self (by rw [hQ.four]; exact hj), HB4.out]
            · rw [List.getElem?_set_ne h]
          rw [this]
          exact hQr
        · rw [HBD.out, HKS.out]
          cases l with
          | nil => rfl
          | cons t l => rfl
      · obtain ⟨t, r, rfl⟩ : ∃ t r, l = t :: r := by
          cases l with
          | nil => have := HX.out; simp at this; omega
          | cons t r => exact ⟨t, r, rfl⟩
        obtain ⟨t', r', rfl⟩ : ∃ t' r', l' = t' :: r' := by
          cases l' with
          | nil => have := HLL.out; simp at this; omega
          | cons t r => exact ⟨t, r, rfl⟩
        have hk2 := HKS.out
        simp only [List.map_cons, List.cons.injEq] at hk2
        obtain ⟨hk3, hk4⟩ := hk2
        have hk5 : t'.kind = t.kind ∧ t'.code = t.code ∧ t'.b = t.b := by
          simp only [It.key, Prod.mk.injEq] at hk3; exact hk3
        have hc0 : 0 ≤ t'.code := by rw [hk5.2.1]; exact hwf t (by simp)
        have hc1 : t'.code < 64 := by
          rw [hk5.2.1]
          have := hb
          simp only [bad, List.any_cons, Bool.or_eq_false_iff, decide_eq_false_iff_not] at this
          omega
        have hlen : s.l.length < (s.l ++ t' :: r').length := by simp
        obtain ⟨g, off, rfl⟩ := hQr.own.at_ (by show 0 < (s.l ++ t' :: r').length; omega)
        have hget : (s.l ++ t' :: r')[s.l.length]? = some t' := by rw [List.getElem?_append_right (Nat.le_refl _)]; simp
        obtain ⟨-, k1, -⟩ := cellsL_get _ _ _ hget
        have cc : wr.cell? ⟨g, off + s.l.length * 3 + 1, none⟩ = some (.int .u8 t'.code) := by rw [Nat.add_assoc]; exact hQr.own.cells _ _ k1
        have hgq : ¬ g = q := fun e => hQr.own.ne_blk (g := g) rfl hQr.blk (by decide) e
        have hqg : ¬ q = g := fun e => hgq e.symm
        obtain ⟨q0', q1'⟩ := hQr.c0
        have qf := hQr.blk.frozen
        have gf := hQr.own.frozen
        have hlenI : (s.l.length : Int) < ((s.l ++ t' :: r').length : Int) := by omega
        have HK4 := Lib.hid hk4
        have HK5 := Lib.hid hk5
        have H1 : Qat (wr.setCell ⟨g, off + s.l.length * 3 + 1, none⟩ (.int .u8 (t'.code + 64))) base q (some ⟨g, off, none⟩) c' ⟨s.most, s.l ++ { t' with code := t'.code + 64 } :: r', s.lost⟩ := by
          have hc : Chg (fun i => i = g) wr (wr.setCell ⟨g, off + s.l.length * 3 + 1, none⟩ (.int .u8 (t'.code + 64))) := (Chg.refl (fun i => i = g) _).at_ (q := g) (Eq.refl g) _ _
          have hll : (s.l ++ { t' with code := t'.code + 64 } :: r').length = (s.l ++ t' :: r').length := by simp
          refine ⟨?_, ?_, ?_, hQr.four⟩
          · show Blk _ q 54 (qcs s.most _ _ c' s.lost)
            rw [hll]
            exact hQr.blk.chg hc hqg
          · show Own _ base 31 3 _ _ c' (cellsL _)
            rw [hll, ← cellsL_code, Nat.add_assoc]
            exact hQr.own.set_ (s.l.length * 3 + 1) (by show _ < (s.l ++ t' :: r').length * 3; omega) _
          · intro u hu
            have hu' : ∃ u0 ∈ s.l ++ t' :: r', u0.b = u.b ∧ u0.A = u.A ∧ u0.n = u.n ∧ u0.c = u.c := by
              rcases List.mem_append.1 hu with h | h
              · exact ⟨u, by simp [h], rfl, rfl, rfl, rfl⟩
              · rcases List.mem_cons.1 h with rfl | h
                · exact ⟨t', by simp, rfl, rfl, rfl, rfl⟩
                · exact ⟨u, by simp [h], rfl, rfl, rfl, rfl⟩
            obtain ⟨u0, hu0, e1, e2, e3, e4⟩ := hu'
            obtain ⟨x1, x2, x3⟩ := hQr.its u0 hu0
            rw [← e1, ← e2, ← e3, ← e4]
            exact ⟨x1, x2, x3.chg hc (fun i hi e => by
              subst e
              rcases own_own_ne x3 hQr.own (by decide) with h | h
              · rw [h] at hi; cases hi
              · exact h (by rw [hi]; rfl))⟩
        have H2 := Lib.hid (H1.lost_ j false)
        have H3 : Hid (Chg (qF q AQ) w ((wr.setCell ⟨g, off + s.l.length * 3 + 1, none⟩ (.int .u8 (t'.code + 64))).setCell ⟨q, 2 + j, none⟩ (.bool false))) := by
          refine Chg.at_ (hch.set_ (p := ⟨g, _, none⟩) (fun hlt => ?_) _) (.inl rfl) _ _
          rcases hbk with h | ⟨g', h, h2⟩
          · exact .inr h.symm
          · simp [blkOf] at h
            dsimp only at hlt
            omega
        clear H1 hk3 hk4 hk5 k1 hget hit hr hin C
        go_wp2_with fail
        go_ret
        refine ⟨_, c', _, rfl, H2.out, ?_, H3.out, hbk⟩
        rw [HBD.out, List.map_cons, HK4.out]
        show (_, _, _) :: _ = bumpK true ((_, _, _) :: _)
        rw [bumpK, HK5.out.1, HK5.out.2.1, HK5.out.2.2]
        rfl
end Go.Proofs.Ytchneedpgpocnaa
