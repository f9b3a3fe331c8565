/- QueueWhole: what the law holds. -/
import Derived.Test.YtchneedpgpocnaaQX
import Derived.Test.YtchneedpgpocnaaQM
import Derived.Test.YtchneedpgpocnaaQB
namespace Go.Proofs.Ytchneedpgpocnaa
open Go.RowKit
set_option linter.unusedVariables false
set_option linter.unusedSimpArgs false
abbrev Key := Int × Int × List Int
theorem blk_ty' {w : World} {g : Nat} {t t' : TypeId} {cs cs' : Array Value} (h : Blk w g t cs) (h' : Blk w g t' cs') : t = t' := by
  unfold Blk at h h'
  rw [h] at h'
  injection h' with h'
  injection h' with _ h'
theorem qx_cs {w : World} {q : Nat} {r : Option Nat} {a : Aq} (h : QX w q r a) : ∃ cs, Blk w q 54 cs := by
  obtain ⟨A, c, s, h1, _⟩ := h
  exact ⟨_, h1.blk⟩
theorem qx_row {w : World} {q : Nat} {r : Option Nat} {a : Aq} (h : QX w q r a) : ∀ g, r = some g → ∃ cs, Blk w g 31 cs := by
  obtain ⟨A, c, s, h1, rfl, _⟩ := h
  intro g hg
  obtain ⟨a0, ha0, rfl⟩ := Option.map_eq_some_iff.1 hg
  obtain ⟨g', off, cur, rfl, _, hh, _⟩ := h1.own.2.2.2.2 a0 ha0
  exact ⟨cur, hh⟩
/-- The queue, what waits beside it, and which lists lost one. -/
structure WW (w0 gL q : Nat) (most : Int) (ks : List Key) (ls : List Bool) (Aw : Option Addr) (nw cw : Nat) (r : Option Nat) (ws : List It) (w : World) : Prop where
  qx : QX w q r ⟨most, ks, ls ++ [false, false]⟩
  own : Own w w0 31 3 Aw nw cw (cellsL ws)
  its : ItOk w 0 ws
  key : ws.map It.key = ks
  blk : Blk w gL 29 (ls.map Value.bool).toArray
  hr : ∀ g, r = some g → w0 ≤ g
  ne : ∀ g, r = some g → blkOf Aw ≠ some g
  hq : w0 ≤ q
  hg : w0 ≤ gL
  two : ls.length = 2
section
variable {w0 gL q : Nat} {most : Int} {ks : List Key} {ls : List Bool} {Aw : Option Addr} {nw cw : Nat} {r : Option Nat} {ws : List It} {w w' : World}
theorem WW.len (h : WW w0 gL q most ks ls Aw nw cw r ws w) : ws.length = nw ∧ ks.length = nw := by
  have h1 := h.own.1
  rw [cellsL_len] at h1
  have : ws.length = nw := by omega
  exact ⟨this, by rw [← h.key, List.length_map]; exact this⟩
theorem WW.sz (h : WW w0 gL q most ks ls Aw nw cw r ws w) : w0 ≤ w.heap.size := by have := h.blk.lt; have := h.hg; omega
theorem WW.below (h : WW w0 gL q most ks ls Aw nw cw r ws w) (hb : Below w.heap.size w w') : WW w0 gL q most ks ls Aw nw cw r ws w' :=
  ⟨h.qx.below hb, h.own.below hb, h.its.below hb, h.key, h.blk.below hb, h.hr, h.ne, h.hq, h.hg, h.two⟩
theorem WW.next0 (h : WW w0 gL q most [] ls Aw nw cw r ws w) : Calls Try.prog 10 #[.pointer (some ⟨q, 0, none⟩)] w fun e w' => e = .returned (.tuple #[noRep, .bool false]) ∧ Below w.heap.size w w' := h.qx.next0
/-- What waits, but the first. -/
def nextP (w0 gL q : Nat) (most : Int) (k : Key) (ks : List Key) (ls : List Bool) (Aw : Option Addr) (nw cw : Nat) (w : World) (e : Ending) (w' : World) : Prop :=
  ∃ A n c X d r ws, e = .returned (.tuple #[.agg #[.int .u8 k.1, .int .u8 k.2.1, .slice A n c], .bool true]) ∧ k.2.2.length = n ∧ Own w' 0 5 1 A n c (u8s k.2.2) ∧ Rd w' w'.heap.size Aw [.int .u8 k.1, .int .u8 k.2.1, .slice X n d] ∧ Rd w' w'.heap.size X (u8s k.2.2) ∧
    WW w0 gL q most ks ls (if cw = 1 then Aw else Aw.map (·.add 3)) (nw - 1) (cw - 1) r ws w' ∧ Below w0 w w'
theorem WW.next {k : Key} (h : WW w0 gL q most (k :: ks) ls Aw nw cw r ws w) (hal : nw ≤ 1000000) :
    Calls Try.prog 10 #[.pointer (some ⟨q, 0, none⟩)] w (nextP w0 gL q most k ks ls Aw nw cw w) := by
  have hsz := h.sz
  have hl := h.len
  obtain ⟨cq, hcq⟩ := qx_cs h.qx
  obtain ⟨x, y, z⟩ := k
  have hqx := h.qx
  refine (hqx.next (by have := hl.2; simp at this; omega)).mono ?_
  rintro e w' ⟨A, n, c, rfl, hn, ho, hQ, hch⟩
  obtain ⟨t, ws', rfl⟩ : ∃ t ws', ws = t :: ws' := by
    cases ws with
    | nil => have := h.key; simp at this
    | cons t ws => exact ⟨t, ws, rfl⟩
  have hk := h.key
  simp only [List.map_cons, List.cons.injEq, It.key, Prod.mk.injEq] at hk
  obtain ⟨⟨k1, k2, k3⟩, k4⟩ := hk
  obtain ⟨i1, i2, i3⟩ := h.its t (by simp)
  have i3' : Own w' 0 5 1 t.A t.n t.c (u8s t.b) := i3.chg hch (fun g hg e => i3.ne_blk hg hcq (by decide) e)
  have ho' : Own w' w0 31 3 Aw nw cw (cellsL (t :: ws')) := h.own.chg hch (fun g hg e => h.own.ne_blk hg hcq (by decide) e)
  have hnn : t.n = n := by rw [← hn, ← i1, k3]
  have hnw : 1 ≤ nw := by have := hl.1; simp at this; omega
  have hcut := ho'.cut (k := 1) hnw (by decide)
  have hits : ItOk w' 0 (t :: ws') := h.its.chg hch (fun g hg _ => by subst hg; exact ⟨54, cq, hcq, by decide⟩)
  refine ⟨A, n, c, t.A, t.c, r, ws', rfl, hn, ho, ?_, by rw [← k3]; exact i3'.rd, ⟨hQ, hcut, fun u hu => hits u (by simp [hu]), k4, ?_, h.hr, ?_, h.hq, h.hg, h.two⟩, hch.below (fun i _ e => by have := h.hq; omega) hsz⟩
  · have := (ho'.rd).take 3
    rw [← k1, ← k2, ← hnn]
    exact this
  · exact h.blk.chg hch (fun e => by subst e; have := blk_ty' h.blk hcq; cases this)
  · intro g hg
    have := h.ne g hg
    split
    · exact this
    · cases Aw with
      | none => exact this
      | some a => intro hh; apply this; simp only [blkOf, Option.map_some, Option.some.injEq] at hh ⊢; rw [← hh]; unfold Addr.add; split <;> rfl
/-- Between the queue's Put and what the law does with it. -/
structure WM (w0 gL q : Nat) (most : Int) (ks ks' : List Key) (lq ls : List Bool) (Aw : Option Addr) (nw cw : Nat) (Al : Option Addr) (n cl : Nat) (r : Option Nat) (ws ll : List It) (w : World) : Prop where
  qx : QX w q r ⟨most, ks', lq ++ [false, false]⟩
  own : Own w w0 31 3 Aw nw cw (cellsL ws)
  its : ItOk w 0 ws
  key : ws.map It.key = ks
  blk : Blk w gL 29 (ls.map Value.bool).toArray
  ownL : Own w w0 31 3 Al n cl (cellsL ll)
  itsL : ItOk w 0 ll
  hr : ∀ g, r = some g → w0 ≤ g
  ne : ∀ g, r = some g → blkOf Aw ≠ some g
  neL : ∀ g, blkOf Al = some g → r ≠ some g ∧ blkOf Aw ≠ some g
  hq : w0 ≤ q
  hg : w0 ≤ gL
  two : ls.length = 2
  two' : lq.length = 2
theorem WW.put (h : WW w0 gL q most ks ls Aw nw cw r ws w) (hb : Below w.heap.size w w') (j : Nat) (hj : j < 2) {Al : Option Addr} {n cl : Nat} {its : List It} (ho : Own w' w.heap.size 31 3 Al n cl (cellsL its)) (hit : ItOk w' w.heap.size its) (hn : 0 < n) (hnl : n ≤ 1000) (hnw : nw ≤ 1000) (hc : ∀ t ∈ its, 0 ≤ t.code ∧ t.code < 64) (f : Bool) (hf : decide ((nw : Int) + n ≤ most) = f) :
    Calls Try.prog 12 #[.pointer (some ⟨q, 0, none⟩), .int .i64 j, .slice Al n cl] w' fun e w2 => e = .returned (.bool f) ∧ (∃ r2, WM w0 gL q most ks (if f then ks ++ bumpK (ls.getD j false) (its.map It.key) else ks) (ls.set j (!f)) ls Aw nw cw Al n cl r2 ws its w2) ∧ Below w0 w' w2 := by
  have hsz := h.sz
  have hz := hb.size
  have hl := h.len
  have h' := h.below hb
  have hlt := h.qx.lt
  have hil : its.length = n := by
    have := ho.1
    rw [cellsL_len] at this
    omega
  have two := h.two
  have hgd : (ls ++ [false, false]).getD j false = ls.getD j false := by
    simp only [List.getD_eq_getElem?_getD]
    rw [List.getElem?_append_left (by omega)]
  have hset : ∀ b, (ls ++ [false, false]).set j b = ls.set j b ++ [false, false] := fun b => List.set_append_left _ _ (by omega)
  have hfq : fitsQ ⟨most, ks, ls ++ [false, false]⟩ n = f := by
    unfold fitsQ
    rw [← hf]
    simp only [hl.2]
  refine (h'.qx.put j (by omega) Al n cl its f _ hil hn (by omega) ho.rd (fun t ht => ?_) hc (by simp only [hl.2]; omega) (fun g hg hx => ?_) hfq rfl).mono ?_
  · obtain ⟨i1, i2, i3⟩ := hit t ht
    exact ⟨i1, i2, fun h => by have := i3.2.2.2.1 h; have := i3.2.1; omega, i3.rd, i3.2.1, i3.2.2.1⟩
  · have hge : w.heap.size ≤ g := by
      rcases hg with hg | ⟨t, ht, -, hg⟩
      · exact (ho.lt hg).1
      · exact ((hit t ht).2.2.lt hg).1
    rcases hx with hx | hx
    · omega
    · have := hlt.2 g hx
      omega
  · rintro e w2 ⟨r', rfl, hQ, hch, hrn⟩
    have hz2 := hch.size
    have hlt' := h'.qx.lt
    have hno5 := h'.qx.no5
    obtain ⟨cq, hcq⟩ := qx_cs h'.qx
    refine ⟨rfl, ⟨r', ?_, h'.own.chg hch (fun g hg hx => ?_), h'.its.chg hch (fun g hg _ => hno5 g hg), h'.key, h'.blk.chg hch (fun hx => ?_), (ho.chg hch (fun g hg hx => ?_)).more (by omega), ?_, fun g hg => ?_, fun g hg => ?_, fun g hg => ⟨fun hr => ?_, fun hA => ?_⟩, h.hq, h.hg, h.two, by rw [List.length_set]; exact h.two⟩, hch.below (fun i _ hx => ?_) (by omega)⟩
    · unfold aput at hQ
      rw [List.length_map, hil, hfq] at hQ
      cases f
      · simp only [hset, Bool.false_eq_true, if_false] at hQ
        simpa using hQ
      · simp only [hset, hgd, if_true] at hQ
        simpa using hQ
    · rcases hx with hx | hx
      · exact h'.own.ne_blk hg hcq (by decide) hx
      · exact h.ne g hx hg
    · rcases hx with hx | hx
      · subst hx
        have := blk_ty' h'.blk hcq
        cases this
      · obtain ⟨cs, hcs⟩ := qx_row h'.qx _ hx
        have := blk_ty' h'.blk hcs
        cases this
    · have hge := (ho.lt hg).1
      rcases hx with hx | hx
      · omega
      · have := hlt.2 g hx
        omega
    · intro t ht
      obtain ⟨i1, i2, i3⟩ := hit t ht
      refine ⟨i1, i2, (i3.chg hch (fun g hg hx => ?_)).more (by omega)⟩
      obtain ⟨t', cs, hB, hne⟩ := hno5 g hx
      exact i3.ne_blk hg hB (fun e => hne e.symm) rfl
    · rcases hrn with hrn | ⟨g', hg', hlt2⟩
      · exact h.hr g (by rw [← hrn]; exact hg)
      · rw [hg'] at hg
        injection hg with hg
        omega
    · rcases hrn with hrn | ⟨g', hg', hlt2⟩
      · exact h.ne g (by rw [← hrn]; exact hg)
      · rw [hg'] at hg
        injection hg with hg
        intro hA
        have := (h'.own.lt hA).2
        omega
    · have hge := ho.lt hg
      rcases hrn with hrn | ⟨g', hg', hlt2⟩
      · have := hlt.2 g (by rw [← hrn]; exact hr)
        omega
      · rw [hg'] at hr
        injection hr with hr
        omega
    · have hge := (ho.lt hg).1
      have := (h.own.lt hA).2
      omega
    · rcases hx with hx | hx
      · have := h.hq; omega
      · have := h.hr i hx; omega
variable {ks' : List Key} {lq : List Bool} {Al : Option Addr} {n cl : Nat} {its : List It}
theorem boolsSet (ls : List Bool) (j : Nat) (b : Bool) : (ls.map Value.bool).toArray.setIfInBounds j (.bool b) = ((ls.set j b).map Value.bool).toArray := by simp [List.map_set]
theorem WM.lost_ (h : WM w0 gL q most ks ks' lq ls Aw nw cw Al n cl r ws its w) (j : Nat) (b : Bool) : WM w0 gL q most ks ks' lq (ls.set j b) Aw nw cw Al n cl r ws its (w.setCell ⟨gL, j, none⟩ (.bool b)) := by
  have hc : Chg (fun i => i = gL) w (w.setCell ⟨gL, j, none⟩ (.bool b)) := (Chg.refl (fun i => i = gL) _).at_ (q := gL) (Eq.refl gL) _ _
  have hF : ∀ g, g = gL → g < w.heap.size → ∃ t cs, Blk w g t cs ∧ t ≠ 5 := fun g e _ => by subst e; exact ⟨29, _, h.blk, by decide⟩
  obtain ⟨cq, hcq⟩ := qx_cs h.qx
  refine ⟨h.qx.chg hc (fun e => ?_) (fun g hg e => ?_) hF, h.own.chg hc (fun g hg e => h.own.ne_blk hg h.blk (by decide) e), h.its.chg hc hF, h.key, ?_, h.ownL.chg hc (fun g hg e => h.ownL.ne_blk hg h.blk (by decide) e), h.itsL.chg hc hF, h.hr, h.ne, h.neL, h.hq, h.hg, by rw [List.length_set]; exact h.two, h.two'⟩
  · subst e
    have := blk_ty' h.blk hcq
    cases this
  · obtain ⟨cs, hcs⟩ := qx_row h.qx g hg
    subst e
    have := blk_ty' h.blk hcs
    cases this
  · rw [← boolsSet]
    exact h.blk.set_ j _
theorem WM.to (h : WM w0 gL q most ks ks' lq lq Aw nw cw Al n cl r ws its w) (hk : ks' = ks) : WW w0 gL q most ks lq Aw nw cw r ws w := by
  subst hk
  exact ⟨h.qx, h.own, h.its, h.key, h.blk, h.hr, h.ne, h.hq, h.hg, h.two⟩
/-- Packets of the law's samples. -/
def smp (i j : Int) (k : Nat) : Key := (4, 8 * j + k, [i, (k : Int)])
def smpL (i j : Int) (k : Nat) : List Key := (List.range k).map (smp i j)
theorem smpL_succ (i j : Int) (k : Nat) : smpL i j k ++ [smp i j k] = smpL i j (k + 1) := by simp [smpL, List.range_succ]
theorem cellsL_code0 (t : It) (rs : List It) (x : Int) : (cellsL (t :: rs)).set 1 (.int .u8 x) = cellsL ({ t with code := x } :: rs) := rfl
theorem WM.bump {t : It} {g o : Nat} (h : WM w0 gL q most ks ks' lq ls Aw nw cw (some ⟨g, o, none⟩) n cl r ws (t :: its) w) (x : Int) : WM w0 gL q most ks ks' lq ls Aw nw cw (some ⟨g, o, none⟩) n cl r ws ({ t with code := x } :: its) (w.setCell ⟨g, o + 1, none⟩ (.int .u8 x)) := by
  have hc : Chg (fun i => i = g) w (w.setCell ⟨g, o + 1, none⟩ (.int .u8 x)) := (Chg.refl (fun i => i = g) _).at_ (q := g) (Eq.refl g) _ _
  obtain ⟨n1, n2⟩ := h.neL g rfl
  obtain ⟨g', off, cur, ha, _, hh, _⟩ := h.ownL.2.2.2.2 _ rfl
  simp only [Addr.mk.injEq, and_true] at ha
  obtain ⟨rfl, rfl⟩ := ha
  have hB : Blk w g 31 cur := hh
  have hF : ∀ i, i = g → i < w.heap.size → ∃ t cs, Blk w i t cs ∧ t ≠ 5 := fun i e _ => by subst e; exact ⟨31, _, hB, by decide⟩
  obtain ⟨cq, hcq⟩ := qx_cs h.qx
  have hn : 0 < n := by have := h.ownL.1; rw [cellsL_len] at this; simp at this; omega
  refine ⟨h.qx.chg hc (fun e => ?_) (fun i hi e => ?_) hF, h.own.chg hc (fun i hi e => ?_), h.its.chg hc hF, h.key, h.blk.chg hc (fun e => ?_), ?_, fun u hu => ?_, h.hr, h.ne, h.neL, h.hq, h.hg, h.two, h.two'⟩
  · subst e
    have := blk_ty' hB hcq
    cases this
  · subst e
    exact n1 hi
  · subst e
    exact n2 hi
  · subst e
    have := blk_ty' hB h.blk
    cases this
  · rw [← cellsL_code0]
    exact h.ownL.set_ 1 (by omega) _
  · have : ∃ u0 ∈ t :: its, u0.b = u.b ∧ u0.A = u.A ∧ u0.n = u.n ∧ u0.c = u.c := by
      rcases List.mem_cons.1 hu with rfl | hu
      · exact ⟨t, by simp, rfl, rfl, rfl, rfl⟩
      · exact ⟨u, by simp [hu], rfl, rfl, rfl, rfl⟩
    obtain ⟨u0, hu0, e1, e2, e3, e4⟩ := this
    have := h.itsL.chg hc hF u0 hu0
    rw [e1, e2, e3, e4] at this
    exact this
theorem WM.app {A' : Option Addr} {c' : Nat} (h : WM w0 gL q most ks ks' lq lq Aw nw cw Al n cl r ws its w) (hg : w.grownBy w' (blkOf Aw)) (ho : Own w' w0 31 3 A' (nw + n) c' (cellsL ws ++ cellsL its)) (hbk : blkOf A' = blkOf Aw ∨ blkOf A' = some w.heap.size) (hk : ks ++ its.map It.key = ks') :
    WW w0 gL q most ks' lq A' (nw + n) c' r (ws ++ its) w' := by
  have hc := Chg.of_grown hg
  have hlt := h.qx.lt
  obtain ⟨cq, hcq⟩ := qx_cs h.qx
  have hrow : ∀ i, some i = blkOf Aw → ∃ cs, Blk w i 31 cs := fun i hi => by
    obtain ⟨a0, ha0, rfl⟩ := Option.map_eq_some_iff.1 hi.symm
    obtain ⟨g', off, cur, rfl, _, hh, _⟩ := h.own.2.2.2.2 a0 ha0
    exact ⟨cur, hh⟩
  have hF : ∀ i, some i = blkOf Aw → i < w.heap.size → ∃ t cs, Blk w i t cs ∧ t ≠ 5 := fun i hi _ => by
    obtain ⟨cs, hcs⟩ := hrow i hi
    exact ⟨31, cs, hcs, by decide⟩
  refine ⟨h.qx.chg hc (fun e => ?_) (fun g hg e => h.ne g hg e.symm) hF, by rw [cellsL_app]; exact ho, fun u hu => ?_, by rw [List.map_append, h.key, hk], h.blk.chg hc (fun e => ?_), h.hr, fun g hg hA => ?_, h.hq, h.hg, h.two⟩
  · obtain ⟨cs, hcs⟩ := hrow q e
    have := blk_ty' hcs hcq
    cases this
  · rcases List.mem_append.1 hu with hu | hu
    · exact (h.its.chg hc hF) u hu
    · exact (h.itsL.chg hc hF) u hu
  · obtain ⟨cs, hcs⟩ := hrow gL e
    have := blk_ty' hcs h.blk
    cases this
  · rcases hbk with hbk | hbk
    · exact h.ne g hg (by rw [← hbk]; exact hA)
    · rw [hbk] at hA
      injection hA with hA
      have := hlt.2 g hg
      omega
end
end Go.Proofs.Ytchneedpgpocnaa
