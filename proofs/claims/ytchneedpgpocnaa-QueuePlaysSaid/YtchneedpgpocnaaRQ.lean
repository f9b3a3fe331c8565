/- The reference's Put that takes. -/
import Derived.Test.YtchneedpgpocnaaRP
import Derived.Test.YtchneedpgpocnaaQB
import Derived.Deep.QuietTactic
import Derived.BigQuiet
import Derived.Deep.RegionLaw
import Derived.Deep.RegionHeldLaw
import Derived.Deep.Cut
import Derived.Deep.CutRange
namespace Go.Proofs.Ytchneedpgpocnaa
open Go.RowKit
set_option linter.unusedVariables false
set_option linter.unusedSimpArgs false
theorem fresh1 {wr w' : World} (h : Below wr.heap.size wr w') : Own (w'.alloc (.cells #[] 5)) wr.heap.size 5 1 (some ⟨w'.heap.size, 0, none⟩) 0 0 [] := Own.made (e := 5) (size := 1) w' h.size #[] 0 0 (by decide) (by decide) rfl
theorem fresh2 {wr w' : World} (h : Below wr.heap.size wr w') (o : Obj) : Own ((w'.alloc (.cells #[] 5)).alloc o) wr.heap.size 5 1 (some ⟨w'.heap.size, 0, none⟩) 0 0 [] := (fresh1 h).alloc o
theorem fresh3 {wr w' : World} (h : Below wr.heap.size wr w') (o : Obj) : Own ((w'.alloc o).alloc (.cells #[] 5)) wr.heap.size 5 1 (some ⟨w'.heap.size + 1, 0, none⟩) 0 0 [] := by
  have := Own.made (e := 5) (size := 1) (base := wr.heap.size) (w'.alloc o) (by have := h.size; simp only [World.size_alloc]; omega) #[] 0 0 (by decide) (by decide) rfl
  rw [World.size_alloc] at this
  exact this
theorem blkT2 (w' : World) (cs : Array Value) (o : Obj) : Blk ((w'.alloc o).alloc (.cells cs 31)) (w'.heap.size + 1) 31 cs := by
  have := Blk.new (w'.alloc o) 31 cs
  simpa only [World.size_alloc] using this
theorem closeT {wr w5 : World} {B g n c : Nat} {A : Option Addr} {xs : List Value} (u0 u1 u2 : Value) (BT : Blk w5 g 31 #[.int .u8 0, .int .u8 0, .slice none 0 0]) (ho : Own w5 B 5 1 A n c xs) (hb : Below wr.heap.size wr w5) (hg : wr.heap.size ≤ g) :
    Blk (((w5.setCell ⟨g, 0, none⟩ u0).setCell ⟨g, 1, none⟩ u1).setCell ⟨g, 2, none⟩ u2) g 31 #[u0, u1, u2] ∧ Own (((w5.setCell ⟨g, 0, none⟩ u0).setCell ⟨g, 1, none⟩ u1).setCell ⟨g, 2, none⟩ u2) B 5 1 A n c xs ∧ Below wr.heap.size wr (((w5.setCell ⟨g, 0, none⟩ u0).setCell ⟨g, 1, none⟩ u1).setCell ⟨g, 2, none⟩ u2) := by
  have hc : Chg (fun i => i = g) w5 (((w5.setCell ⟨g, 0, none⟩ u0).setCell ⟨g, 1, none⟩ u1).setCell ⟨g, 2, none⟩ u2) := (((Chg.refl (fun i => i = g) _).at_ (q := g) (Eq.refl _) _ _).at_ (q := g) (Eq.refl _) _ _).at_ (q := g) (Eq.refl _) _ _
  exact ⟨((BT.set_ 0 u0).set_ 1 u1).set_ 2 u2, ho.chg hc (fun i hi e => ho.ne_blk hi BT (by decide) e), hb.trans (hc.below (fun i _ e => by omega) hb.size)⟩
theorem fr31a {W : World} : Own (W.alloc (.cells #[] 31)) W.heap.size 31 3 (some ⟨W.heap.size, 0, none⟩) 0 0 [] := Own.made (e := 31) (size := 3) W (Nat.le_refl _) #[] 0 0 (by decide) (by decide) rfl
theorem fr31b {W : World} (o : Obj) : Own ((W.alloc (.cells #[] 31)).alloc o) W.heap.size 31 3 (some ⟨W.heap.size, 0, none⟩) 0 0 [] := fr31a.alloc o
theorem fr31c {W : World} (o : Obj) : Own ((W.alloc o).alloc (.cells #[] 31)) W.heap.size 31 3 (some ⟨W.heap.size + 1, 0, none⟩) 0 0 [] := by
  have := Own.made (e := 31) (size := 3) (base := W.heap.size) (W.alloc o) (by simp) #[] 0 0 (by decide) (by decide) rfl
  rw [World.size_alloc] at this
  exact this
theorem bl1 (W : World) (o : Obj) : Below W.heap.size W (W.alloc o) := (Below.refl _ _).alloc (Nat.le_refl _) _
theorem bl2 (W : World) (o o' : Obj) : Below W.heap.size W ((W.alloc o).alloc o') := (bl1 W o).alloc (by simp) _
theorem bl1d (W : World) (o : Obj) : Below W.heap.size W (W.alloc o).drew := (bl1 W o).drew
theorem bl2d (W : World) (o o' : Obj) : Below W.heap.size W ((W.alloc o).alloc o').drew := (bl2 W o o').drew
theorem Blk.rd {w : World} {g : Nat} {t : TypeId} {cs : List Value} (h : Blk w g t cs.toArray) : Rd w w.heap.size (some ⟨g, 0, none⟩) cs := fun _ => ⟨g, 0, rfl, h.lt, fun i u hu => by rw [h.cell, Nat.zero_add]; simpa using hu⟩
theorem Rat.push17 {W w6 : World} {q c' c6 : Nat} {A' A6 : Option Addr} {S : Qs} (h : Rat W q A' c' S) (hb : Below W.heap.size W w6) (t : It) (ht : t.b.length = t.n ∧ t.n ≤ 1000000 ∧ Own W 0 5 1 t.A t.n t.c (u8s t.b)) {n6 : Nat} (hn6 : n6 = S.l.length + 1) (ho : Own w6 W.heap.size 31 3 A6 n6 c6 (cellsL S.l ++ [.int .u8 t.kind, .int .u8 t.code, .slice t.A t.n t.c])) :
    Rat (w6.setCell ⟨q, 1, none⟩ (.slice A6 n6 c6)) q A6 c6 ⟨S.most, S.l ++ [t], S.lost⟩ ∧ Chg (fun g => g = q) W (w6.setCell ⟨q, 1, none⟩ (.slice A6 n6 c6)) ∧ (∀ g, blkOf A6 = some g → W.heap.size ≤ g) := by
  subst hn6
  have hB := h.blk.below hb
  have hc : Chg (fun g => g = q) w6 (w6.setCell ⟨q, 1, none⟩ (.slice A6 (S.l.length + 1) c6)) := (Chg.refl (fun g => g = q) _).at_ (q := q) (Eq.refl q) _ _
  have hl : (S.l ++ [t]).length = S.l.length + 1 := by simp
  refine ⟨⟨?_, ?_, fun u hu => ?_, h.four⟩, (Chg.of_below hb _).trans hc (fun _ _ e => e), fun g hg => (ho.lt hg).1⟩
  · have := hB.set_ 1 (.slice A6 (S.l.length + 1) c6)
    rw [qcs_l] at this
    show Blk _ q 51 (qcs S.most A6 (S.l ++ [t]).length c6 S.lost)
    rw [hl]
    exact this
  · show Own _ 0 31 3 A6 (S.l ++ [t]).length c6 (cellsL (S.l ++ [t]))
    rw [hl, cellsL_app]
    exact (ho.chg hc (fun g hg e => ho.ne_blk hg hB (by decide) e)).more (Nat.zero_le _)
  · have h0 : u.b.length = u.n ∧ u.n ≤ 1000000 ∧ Own W 0 5 1 u.A u.n u.c (u8s u.b) := by
      rcases List.mem_append.1 hu with hu | hu
      · exact h.its u hu
      · simp at hu; subst hu; exact ht
    obtain ⟨h1, h2, h3⟩ := h0
    have h4 := h3.below hb
    exact ⟨h1, h2, h4.chg hc (fun g hg e => h4.ne_blk hg hB (by decide) e)⟩
theorem bumpK_get (lj : Bool) (l : List It) (m : Nat) (t : It) (h : l[m]? = some t) : (bumpK lj (l.map It.key))[m]? = some (t.kind, (if m = 0 ∧ lj = true then t.code + 64 else t.code), t.b) := by
  cases l with
  | nil => simp at h
  | cons u l =>
    cases m with
    | zero =>
      simp at h
      subst h
      cases lj <;> simp [bumpK, It.key]
    | succ m =>
      simp at h
      cases lj <;> simp [bumpK, It.key, h]
def RPutP (w : World) (q : Nat) (s : Qs) (j : Nat) (l : List It) (e : Ending) (w' : World) : Prop := ∃ A' c' l', e = .returned (.bool true) ∧ Rat w' q A' c' ⟨s.most, s.l ++ l', s.lost.set j false⟩ ∧ l'.map It.key = bumpK (s.lost.getD j false) (l.map It.key) ∧ Chg (fun g => g = q) w w' ∧ (∀ g, blkOf A' = some g → w.heap.size ≤ g)
set_option maxRecDepth 100000 in
set_option maxHeartbeats 4000000 in
theorem rput_ok (q : Nat) (AQ : Option Addr) (cQ : Nat) (s : Qs) (j : Nat) (A : Option Addr) (n c : Nat) (l : List It) (w : World) (hQ : Rat w q AQ cQ s) (hj : j < 4) (hx : l.length = n) (hn : 0 < n) (hl : n ≤ 1000000) (hr : Rd w w.heap.size A (cellsL l)) (hit : ItRd w l) (hb : bad l = false) (hwf : ∀ t ∈ l, 0 ≤ t.code)
    (hin : ∀ g, (blkOf A = some g ∨ ∃ t ∈ l, t.b ≠ [] ∧ blkOf t.A = some g) → g ≠ q) (hs : s.l.length ≤ 1000000) (hm : s.l.length + n ≤ s.most) :
    Calls Try.prog 16 #[.pointer (some ⟨q, 0, none⟩), .int .i64 j, .slice A n c] w (RPutP w q s j l) := by
  have h3' : ((n : Int) == 0) = false := by simp; omega
  have h1' : 0 ≤ (j : Int) := by omega
  have h2' : (j : Int) < 4 := by omega
  have hd1 : decide ((j : Int) < 0) = false := by simp
  have hd2 : decide (4 ≤ (j : Int)) = false := by simp; omega
  have HX := Lib.hid hx
  have HB := Lib.hid hb
  clear hx hb
  go_enter Try.func16, Try.ntmps16
  go_wp2_with fail
  go_loopw [7] (fun i wr => ∃ k : Nat, k ≤ n ∧ i = .int .i64 k ∧ w = wr) (fun i _ => n - (intOf i).toNat)
  case atStart => exact ⟨0, Nat.zero_le _, rfl, rfl⟩
  case round =>
    obtain ⟨k, hk, rfl, rfl⟩ := hrel
    by_cases hlt : k < n
    · have hlt' : (k : Int) < n := by omega
      obtain ⟨t, ht⟩ : ∃ t, l[k]? = some t := ⟨_, List.getElem?_eq_getElem (by rw [HX.out]; exact hlt)⟩
      obtain ⟨b, o, rfl, -, hc⟩ := hr (by intro h; have h2 := cellsL_len l; rw [h, HX.out] at h2; simp at h2; omega)
      obtain ⟨g0, g1, g2⟩ := cellsL_get l k t ht
      have q1 := hc _ _ g1
      rw [← Nat.add_assoc] at q1
      have hcd' : t.code < 64 := by
        have := HB.out
        rw [bad, List.any_eq_false] at this
        have := this t (List.mem_of_getElem? ht)
        simpa using this
      clear ht g0 g1 g2 hc
      go_wp2_with fail
      go_roundw
      case rel => exact ⟨k + 1, by omega, by go_num, trivial⟩
      case measure => simp [intOf]; omega
    · obtain rfl : k = n := by omega
      obtain ⟨c0, c1⟩ := hQ.c0
      have hw1 : IntKind.i64.wrap ((s.l.length : Int) + k) = (s.l.length : Int) + k := by rw [IntKind.wrap_i64]; omega
      have hm' : ¬ s.most < (s.l.length : Int) + k := by omega
      have hm2 : (s.l.length : Int) + k ≤ s.most := by omega
      have hd : decide (s.most < (s.l.length : Int) + k) = false := by simpa using hm'
      go_wp2_with fail
      go_quiet (fail)
      go_wp2_with fail
      have hQ2 := hQ.below (bel_drewN (Below.refl _ _) nq)
      have hb2 := bel_drewN (Below.refl w.heap.size w) nq
      generalize w.drewN nq = w2 at *
      clear c0 c1 hw1 hd hm2
      obtain ⟨lj, hlj⟩ : ∃ lj, s.lost[j]? = some lj := ⟨_, List.getElem?_eq_getElem (by rw [hQ.four]; exact hj)⟩
      have HLJ := Lib.hid hlj
      clear hlj
      have HK0 : Hid (([] : List It).map It.key = (bumpK lj (l.map It.key)).take 0) := by exact Lib.hid (by simp)
      go_loopw [8] (fun i wr => ∃ (m : Nat) (A' : Option Addr) (c' : Nat) (l' : List It), m ≤ k ∧ i = .int .i64 m ∧ Rat wr q A' c' ⟨s.most, s.l ++ l', s.lost⟩ ∧ l'.map It.key = (bumpK lj (l.map It.key)).take m ∧ Chg (fun g => g = q) w wr ∧ (m = 0 ∨ ∀ g, blkOf A' = some g → w.heap.size ≤ g)) (fun i _ => k - (intOf i).toNat)
      case atStart => exact ⟨0, AQ, cQ, [], Nat.zero_le _, rfl, by simpa using hQ2, HK0.out, Chg.of_below hb2 _, .inl rfl⟩
      case round =>
        rename World => wr
        obtain ⟨m, A', c', l', hmk, rfl, hQr, hkey, hch, hbk⟩ := hrel
        have hll : l'.length = m := by
          have := congrArg List.length hkey
          simpa [HX.out, bumpK_len, hmk] using this
        have HKey := Lib.hid hkey
        have HLL := Lib.hid hll
        clear hkey hll
        by_cases hlt : m < k
        · have hlt' : (m : Int) < k := by omega
          obtain ⟨t, ht⟩ : ∃ t, l[m]? = some t := ⟨_, List.getElem?_eq_getElem (by rw [HX.out]; exact hlt)⟩
          have htm := List.mem_of_getElem? ht
          obtain ⟨i1, i2, i3, i4, i5, i6⟩ := hit t htm
          have hrr : Rd wr w.heap.size A (cellsL l) := hr.chg (Nat.le_refl _) hch (fun g hg => hin g (.inl hg))
          obtain ⟨b, o, rfl, hbw, hc⟩ := hrr (by intro h; have h2 := cellsL_len l; rw [h, HX.out] at h2; simp at h2; omega)
          obtain ⟨g0, g1, g2⟩ := cellsL_get l m t ht
          have q0 := hc _ _ g0
          have q1 := hc _ _ g1
          have q2 := hc _ _ g2
          rw [← Nat.add_assoc] at q1 q2
          have R0 : ∀ w', Below wr.heap.size wr w' → w'.cell? ⟨b, o + m * 3, none⟩ = some (.int .u8 t.kind) := fun w' hb' => (hb'.cell (p := ⟨b, o + m * 3, none⟩) (by dsimp only; have := hch.size; omega)).trans q0
          have R1 : ∀ w', Below wr.heap.size wr w' → w'.cell? ⟨b, o + m * 3 + 1, none⟩ = some (.int .u8 t.code) := fun w' hb' => (hb'.cell (p := ⟨b, o + m * 3 + 1, none⟩) (by dsimp only; have := hch.size; omega)).trans q1
          have R2 : ∀ w', Below wr.heap.size wr w' → w'.cell? ⟨b, o + m * 3 + 2, none⟩ = some (.slice t.A t.n t.c) := fun w' hb' => (hb'.cell (p := ⟨b, o + m * 3 + 2, none⟩) (by dsimp only; have := hch.size; omega)).trans q2
          have hrt : Rd wr wr.heap.size t.A (u8s t.b) := (i4.chgN (Nat.le_refl _) hch (fun g hg hne => hin g (.inr ⟨t, htm, fun h => hne (by rw [h]; rfl), hg⟩))).more hch.size
          have HT := Lib.hid ht
          clear ht hc g0 g1 g2 hrr
          go_upto_region 15 with fail
          go_cut [9] (fun v wx => ∃ g A3 c3, v = .pointer (some ⟨g, 0, none⟩) ∧ wr.heap.size ≤ g ∧ Blk wx g 31 #[.int .u8 t.kind, .int .u8 t.code, .slice A3 t.n c3] ∧ Own wx wr.heap.size 5 1 A3 t.n c3 (u8s t.b) ∧ Below wr.heap.size wr wx)
          case first =>
            clear q0 q1 q2
            go_region_held_law (fun w' => Below wr.heap.size wr w') (first | exact Below.refl _ _ | exact (Below.refl _ _).drew | exact hb5 | exact Below.alloc (by assumption) (Below.size (by assumption)) _ | exact (Below.alloc (Below.refl _ _) (Nat.le_refl _) _).drew | exact (Below.alloc (Below.alloc (Below.refl _ _) (Nat.le_refl _) _) (by simp) _).drew | exact (Below.alloc (Below.alloc (Below.refl _ _) (Nat.le_refl _) _) (by simp) _).drew.drew | exact Below.setCell (Below.setCell (Below.setCell hb5 (by dsimp only; omega) _) (by dsimp only; omega) _) (by dsimp only; omega) _ | exact Below.setCell (Below.setCell (Below.setCell (hb5.alloc hb5.size _) (by dsimp only; have := hb5.size; omega) _) (by dsimp only; have := hb5.size; omega) _) (by dsimp only; have := hb5.size; omega) _)
              (first
                | (refine step_app _ rfl (.tmp 67) (.tmp 72) 22 rfl wr.heap.size 5 (.int .u8 0) 1 1 Try.underlying22 info5 rfl (by decide) _ 0 0 [] rfl ((fresh1 (Below.refl _ _)).drew) _ _ t.n t.c (u8s t.b) rfl (by simp [i1]) (hrt.below (by assumption)) (u8s_one _) (by unfold maxLen; omega) (by omega) (Below.size (by assumption)) ?_; intro A5 c5 w5 ho5 hg5 hbk5; have hb5 : Below wr.heap.size wr w5 := bel_app (by assumption) ((fresh1 (Below.refl _ _)).drew) (Nat.le_refl _) hg5)
                | (refine step_app _ rfl (.tmp 67) (.tmp 72) 22 rfl wr.heap.size 5 (.int .u8 0) 1 1 Try.underlying22 info5 rfl (by decide) _ 0 0 [] rfl ((fresh2 (Below.refl _ _) _).drew) _ _ t.n t.c (u8s t.b) rfl (by simp [i1]) (hrt.below (by assumption)) (u8s_one _) (by unfold maxLen; omega) (by omega) (Below.size (by assumption)) ?_; intro A5 c5 w5 ho5 hg5 hbk5; have hb5 : Below wr.heap.size wr w5 := bel_app (by assumption) ((fresh2 (Below.refl _ _) _).drew) (Nat.le_refl _) hg5; have BT := (((blkT2 wr #[.int .u8 0, .int .u8 0, .slice none 0 0] (.cells #[] 5)).below ((Below.refl _ _).drew))).grown hg5 (by simp [blkOf]); have bt := BT.cell; have ft := BT.frozen)
                | (refine step_app _ rfl (.tmp 67) (.tmp 72) 22 rfl wr.heap.size 5 (.int .u8 0) 1 1 Try.underlying22 info5 rfl (by decide) _ 0 0 [] rfl ((fresh3 (Below.refl _ _) _).drew) _ _ t.n t.c (u8s t.b) rfl (by simp [i1]) (hrt.below (by assumption)) (u8s_one _) (by unfold maxLen; omega) (by omega) (Below.size (by assumption)) ?_; intro A5 c5 w5 ho5 hg5 hbk5; have hb5 : Below wr.heap.size wr w5 := bel_app (by assumption) ((fresh3 (Below.refl _ _) _).drew) (Nat.le_refl _) hg5; have BT := (((Blk.new wr 31 #[.int .u8 0, .int .u8 0, .slice none 0 0]).alloc (.cells #[] 5)).below ((Below.refl _ _).drew)).grown hg5 (by simp [blkOf]); have bt := BT.cell; have ft := BT.frozen)
                | (trace_state; fail))
            all_goals simp only [Nat.zero_add, List.nil_append] at ho5
            · go_wp2_with fail
              go_meet
              case rel => exact ⟨_, A5, c5, rfl, hb5.size, Blk.new _ _ _, ho5.alloc _, hb5.alloc hb5.size _⟩
            · go_wp2_with fail
              go_meet
              case rel => exact ⟨_, A5, c5, rfl, by omega, closeT _ _ _ BT ho5 hb5 (by omega)⟩
            · go_wp2_with fail
              go_meet
              case rel => exact ⟨_, A5, c5, rfl, Nat.le_refl _, closeT _ _ _ BT ho5 hb5 (Nat.le_refl _)⟩
          case rest =>
            obtain ⟨g9, A3, c3, rfl, hg9, B9, ho9, hb9⟩ := hcut
            have hQc := hQr.below hb9
            have cj : wc.cell? ⟨q, 2 + j, none⟩ = some (.bool lj) := (hQc.blk.cell _).trans (qcs_at _ _ _ _ _ _ _ HLJ.out)
            have b9 := B9.cell
            have f9 := B9.frozen
            have htc : t.code < 64 := by
              have := HB.out
              rw [bad, List.any_eq_false] at this
              have := this t htm
              simpa using this
            have htc0 : 0 ≤ t.code := hwf t htm
            have hz9 := hb9.size
            have hq9 : q ≠ g9 := fun e => by have := hQr.blk.lt; omega
            obtain ⟨cd, hcd⟩ : ∃ cd : Int, cd = (if m = 0 ∧ lj = true then t.code + 64 else t.code) := ⟨_, rfl⟩
            have HCD := Lib.hid hcd
            clear hcd
            have hc9 : Chg (fun i => i = g9) wc (wc.setCell ⟨g9, 1, none⟩ (.int .u8 (t.code + 64))) := (Chg.refl (fun i => i = g9) _).at_ (q := g9) (Eq.refl _) _ _
            have HTK := HT.out
            have HGO : Hid (∀ (W w6 : World) (A6 : Option Addr) (c6 n6 : Nat) (i : Value), Own W wr.heap.size 5 1 A3 t.n c3 (u8s t.b) → Below wr.heap.size wr W → Below W.heap.size W w6 → n6 = (s.l ++ l').length + 1 → Own w6 W.heap.size 31 3 A6 n6 c6 (cellsL (s.l ++ l') ++ [.int .u8 t.kind, .int .u8 cd, .slice A3 t.n c3]) → i = .int .i64 ((m + 1 : Nat) : Int) → ∃ (m : Nat) (A' : Option Addr) (c' : Nat) (l' : List It), m ≤ k ∧ i = .int .i64 m ∧ Rat (w6.setCell ⟨q, 1, none⟩ (.slice A6 n6 c6)) q A' c' ⟨s.most, s.l ++ l', s.lost⟩ ∧ l'.map It.key = (bumpK lj (l.map It.key)).take m ∧ Chg (fun g => g = q) w (w6.setCell ⟨q, 1, none⟩ (.slice A6 n6 c6)) ∧ (m = 0 ∨ ∀ g, blkOf A' = some g → w.heap.size ≤ g)) := Lib.hid (by
              intro W w6 A6 c6 n6 i y1 y2 x1 x2 x3 x4
              obtain ⟨z1, z2, z3⟩ := Rat.push17 (hQr.below y2) x1 ⟨t.kind, cd, A3, t.n, c3, t.b⟩ ⟨i1, i2, y1.more (Nat.zero_le _)⟩ x2 x3
              have hyz := y2.size
              refine ⟨m + 1, A6, c6, l' ++ [⟨t.kind, cd, A3, t.n, c3, t.b⟩], by omega, x4, ?_, ?_, ?_, .inr (fun g hg => by have := z3 g hg; have := hch.size; omega)⟩
              · rw [← List.append_assoc]
                exact z1
              · rw [List.map_append, HKey.out]
                have hg : (bumpK lj (l.map It.key))[m]? = some (t.kind, cd, t.b) := by
                  rw [HCD.out]
                  exact bumpK_get lj l m t HTK
                rw [take_snoc' _ m _ hg]
                rfl
              · exact (hch.grow y2).trans z2 (fun _ _ e => e))
            have hPm : (s.l ++ l').length ≤ 2000000 := by rw [List.length_append, HLL.out]; omega
            clear HTK
            rcases Nat.eq_zero_or_pos m with hm0 | hm0
            case' inl =>
              subst hm0
              cases lj
            case' inr =>
              have hm0' : ((m : Int) == 0) = false := by simp; omega
            all_goals
              go_upto_region 17 with fail
              refine wp_named fun W hW => ?_
              have F3 : Blk W g9 31 #[.int .u8 t.kind, .int .u8 cd, .slice A3 t.n c3] ∧ Own W wr.heap.size 5 1 A3 t.n c3 (u8s t.b) ∧ Below wr.heap.size wr W := by
                rw [HCD.out, hW]
                first
                  | exact ⟨by simpa using B9, ho9, hb9⟩
                  | exact ⟨by rw [if_neg (by omega)]; exact B9, ho9, hb9⟩
                  | exact ⟨by simpa using B9.set_ 1 (.int .u8 (t.code + 64)), ho9.chg hc9 (fun i hi e => ho9.ne_blk hi B9 (by decide) e), hb9.trans (hc9.below (fun i _ e => by omega) hz9)⟩
              clear hW
              have hQW := hQr.below F3.2.2
              have BW := F3.1
              have hoW := F3.2.1
              have hbWr := F3.2.2
              clear F3
              generalize hP : s.l ++ l' = P at *
              obtain ⟨q0, q1⟩ := hQW.c0
              have hoP := hQW.own
              have hPl : (cellsL P).length = P.length * 3 := cellsL_len P
              have q1a : ∀ o, (W.alloc o).cell? ⟨q, 1, none⟩ = some (.slice A' P.length c') := fun o => ((hQW.blk.alloc o).cell 1).trans rfl
              have q1b : ∀ o o', ((W.alloc o).alloc o').cell? ⟨q, 1, none⟩ = some (.slice A' P.length c') := fun o o' => (((hQW.blk.alloc o).alloc o').cell 1).trans rfl
              have g9a : ∀ o i, (W.alloc o).cell? ⟨g9, i, none⟩ = #[.int .u8 t.kind, .int .u8 cd, .slice A3 t.n c3][i]? := fun o => (BW.alloc o).cell
              have g9b : ∀ o o' i, ((W.alloc o).alloc o').cell? ⟨g9, i, none⟩ = #[.int .u8 t.kind, .int .u8 cd, .slice A3 t.n c3][i]? := fun o o' => ((BW.alloc o).alloc o').cell
              have g9c := BW.cell
              go_region_law (first
                | (refine step_app _ rfl (.tmp 90) (.tmp 94) 28 rfl W.heap.size 31 (.agg #[.int .u8 0, .int .u8 0, .slice none 0 0]) 3 32 Try.underlying28 info31 rfl (by decide) _ 0 0 [] rfl fr31a.drew _ _ P.length c' (cellsL P) rfl hPl (hoP.rd.below (bl1d _ _)) (cellsL_one _) (by unfold maxLen; omega) (by omega) (bl1d _ _).size ?_; intro A5 c5 w5 ho5 hg5 hbk5; have hb5 : Below W.heap.size W w5 := bel_app (bl1d _ _) fr31a.drew (Nat.le_refl _) hg5; have B5 := (hQW.blk.below hb5); have b5 : w5.cell? ⟨q, 1, none⟩ = some (.slice A' P.length c') := (B5.cell 1).trans rfl; have f5 := B5.frozen 1; have g5 := (BW.below hb5).cell; simp only [Nat.zero_add, List.nil_append] at ho5)
                | (refine step_app _ rfl (.tmp 90) (.tmp 94) 28 rfl W.heap.size 31 (.agg #[.int .u8 0, .int .u8 0, .slice none 0 0]) 3 32 Try.underlying28 info31 rfl (by decide) _ 0 0 [] rfl (fr31b _).drew _ _ P.length c' (cellsL P) rfl hPl (hoP.rd.below (bl2d _ _ _)) (cellsL_one _) (by unfold maxLen; omega) (by omega) (bl2d _ _ _).size ?_; intro A5 c5 w5 ho5 hg5 hbk5; have hb5 : Below W.heap.size W w5 := bel_app (bl2d _ _ _) (fr31b _).drew (Nat.le_refl _) hg5; have BT := (((blkT2 W #[.int .u8 t.kind, .int .u8 cd, .slice A3 t.n c3] (.cells #[] 31)).drew)).grown hg5 (by simp [blkOf]); have B5 := (hQW.blk.below hb5); have b5 : w5.cell? ⟨q, 1, none⟩ = some (.slice A' P.length c') := (B5.cell 1).trans rfl; have f5 := B5.frozen 1; simp only [Nat.zero_add, List.nil_append] at ho5)
                | (refine step_app _ rfl (.tmp 90) (.tmp 94) 28 rfl W.heap.size 31 (.agg #[.int .u8 0, .int .u8 0, .slice none 0 0]) 3 32 Try.underlying28 info31 rfl (by decide) _ 0 0 [] rfl (fr31c _).drew _ _ P.length c' (cellsL P) rfl hPl (hoP.rd.below (bl2d _ _ _)) (cellsL_one _) (by unfold maxLen; omega) (by omega) (bl2d _ _ _).size ?_; intro A5 c5 w5 ho5 hg5 hbk5; have hb5 : Below W.heap.size W w5 := bel_app (bl2d _ _ _) (fr31c _).drew (Nat.le_refl _) hg5; have BT := ((((Blk.new W 31 #[.int .u8 t.kind, .int .u8 cd, .slice A3 t.n c3]).alloc (.cells #[] 31)).drew)).grown hg5 (by simp [blkOf]); have B5 := (hQW.blk.below hb5); have b5 : w5.cell? ⟨q, 1, none⟩ = some (.slice A' P.length c') := (B5.cell 1).trans rfl; have f5 := B5.frozen 1; simp only [Nat.zero_add, List.nil_append] at ho5)
                | (refine step_app _ rfl (.tmp 95) (.tmp 97) 28 rfl W.heap.size 31 (.agg #[.int .u8 0, .int .u8 0, .slice none 0 0]) 3 32 Try.underlying28 info31 rfl (by decide) _ P.length c5 _ rfl (ho5.alloc _) _ _ 1 1 [.int .u8 t.kind, .int .u8 cd, .slice A3 t.n c3] rfl rfl (Rd.new w5 _ 31) (three_one _ _ _ _ _) (by unfold maxLen; omega) (by omega) (by have := hb5.size; simp; omega) ?_; intro A6 c6 w6 ho6 hg6 hbk6; have hb6 : Below W.heap.size W w6 := bel_app (hb5.alloc hb5.size _) (ho5.alloc _) (Nat.le_refl _) hg6; have b6 : w6.cell? ⟨q, 1, none⟩ = some (.slice A' P.length c') := ((hQW.blk.below hb6).cell 1).trans rfl; have f6 := (hQW.blk.below hb6).frozen 1)
                | (refine step_app _ rfl (.tmp 95) (.tmp 97) 28 rfl W.heap.size 31 (.agg #[.int .u8 0, .int .u8 0, .slice none 0 0]) 3 32 Try.underlying28 info31 rfl (by decide) _ P.length c5 _ rfl (ho5.alloc _).drew _ _ 1 1 [.int .u8 t.kind, .int .u8 cd, .slice A3 t.n c3] rfl rfl (Rd.new w5 _ 31).drew (three_one _ _ _ _ _) (by unfold maxLen; omega) (by omega) (by have := hb5.size; simp; omega) ?_; intro A6 c6 w6 ho6 hg6 hbk6; have hb6 : Below W.heap.size W w6 := bel_app (hb5.alloc hb5.size _).drew (ho5.alloc _).drew (Nat.le_refl _) hg6; have b6 : w6.cell? ⟨q, 1, none⟩ = some (.slice A' P.length c') := ((hQW.blk.below hb6).cell 1).trans rfl; have f6 := (hQW.blk.below hb6).frozen 1)
                | (refine step_app _ rfl (.tmp 95) (.tmp 97) 28 rfl W.heap.size 31 (.agg #[.int .u8 0, .int .u8 0, .slice none 0 0]) 3 32 Try.underlying28 info31 rfl (by decide) _ P.length c5 _ rfl ho5 _ _ 1 1 [.int .u8 t.kind, .int .u8 cd, .slice A3 t.n c3] rfl rfl BT.rd (three_one _ _ _ _ _) (by unfold maxLen; omega) (by omega) hb5.size ?_; intro A6 c6 w6 ho6 hg6 hbk6; have hb6 : Below W.heap.size W w6 := bel_app hb5 ho5 (Nat.le_refl _) hg6; have b6 : w6.cell? ⟨q, 1, none⟩ = some (.slice A' P.length c') := ((hQW.blk.below hb6).cell 1).trans rfl; have f6 := (hQW.blk.below hb6).frozen 1)
                | (refine step_app _ rfl (.tmp 95) (.tmp 97) 28 rfl W.heap.size 31 (.agg #[.int .u8 0, .int .u8 0, .slice none 0 0]) 3 32 Try.underlying28 info31 rfl (by decide) _ P.length c5 _ rfl ho5.drew _ _ 1 1 [.int .u8 t.kind, .int .u8 cd, .slice A3 t.n c3] rfl rfl BT.rd.drew (three_one _ _ _ _ _) (by unfold maxLen; omega) (by omega) hb5.size ?_; intro A6 c6 w6 ho6 hg6 hbk6; have hb6 : Below W.heap.size W w6 := bel_app hb5.drew ho5.drew (Nat.le_refl _) hg6; have b6 : w6.cell? ⟨q, 1, none⟩ = some (.slice A' P.length c') := ((hQW.blk.below hb6).cell 1).trans rfl; have f6 := (hQW.blk.below hb6).frozen 1)
                | (trace_state; fail))
              all_goals
                go_wp2_with fail
                exact ⟨HGO.out _ _ _ _ _ _ hoW hbWr (by assumption) rfl (by assumption) (by go_num), by simp [intOf]; omega⟩
        · obtain rfl : m = k := by omega
          have cj : wr.cell? ⟨q, 2 + j, none⟩ = some (.bool lj) := (hQr.blk.cell _).trans (qcs_at _ _ _ _ _ _ _ HLJ.out)
          have qf := hQr.blk.frozen
          have HE := Lib.hid (hQr.lost_ j false)
          have HC := Lib.hid (hch.at_ (q := q) (Eq.refl q) (2 + j) (.bool false))
          go_wp2_with fail
          go_ret
          refine ⟨A', c', l', rfl, HE.out, ?_, HC.out, ?_⟩
          · rw [HKey.out, List.getD_eq_getElem?_getD, HLJ.out, List.take_of_length_le (by rw [bumpK_len, List.length_map, HX.out]; exact Nat.le_refl _)]
            rfl
          · rcases hbk with h | h
            · omega
            · exact h
end Go.Proofs.Ytchneedpgpocnaa
