/- gather: Take. -/
import Derived.Test.YteecgdbicokgoaaT1
import Derived.Test.YteecgdbicokgoaaL0
namespace Go.Proofs.Yteecgdbicokgoaa
open Go.RowKit Go.Maps
set_option linter.unusedVariables false
set_option linter.unusedSimpArgs false
set_option maxRecDepth 100000
theorem results_blk2 {P : Program} {fn : Func} {p u : Tmp} {ty : TypeId} (h : fn.results = #[.cell p ty, .tmp u]) (tmps : Array Value) (w : World) (g : Nat) (t : TypeId) (cs : Array Value) (d : TypeDesc)
    (hp : tmps.getD p undef = .pointer (some ⟨g, 0, none⟩)) (hg : Blk w g t cs) (hu : P.underlying ty = some d) (hd : (match d with | .struct _ | .array _ _ => true | _ => false) = true) (hi : (P.info? ty).map (·.size) = some cs.size) :
    (results fn tmps).run P w = .ok (.tuple #[.agg cs, tmps.getD u undef]) w := by
  have hp' : tmps[p]?.getD undef = .pointer (some ⟨g, 0, none⟩) := by simpa using hp
  rw [results_cell_tmp h]
  simp [hp', asAddr, run_loadVar_row w g t ty cs (0, 0) d hg hu hd hi]
/-- A literal row of one slice of bytes that the call made. -/
def gBz (B n : Nat) (bs : List Int) : GhB := ⟨⟨fun g => .slice (some ⟨g.2, 0, none⟩) 1 1, fun g w => B ≤ g.2 ∧ ∃ A c, Blk w g.2 22 #[.slice A n c] ∧ Own w B 5 1 A n c (u8s bs)⟩, fun _ _ _ h hb => by
  obtain ⟨h1, A, c, h2, h3⟩ := h
  exact ⟨h1, A, c, h2.below hb, h3.below hb⟩⟩
theorem ChT.grown_ {B : Nat} {ts : List TypeId} {a w w' : World} (h : ChT B ts a w) {row : Option Nat} (hg : w.grownBy w' row) (hr : ∀ q, row = some q → B ≤ q ∧ ∃ t cs, Blk w q t cs ∧ t ∈ ts) : ChT B ts a w' :=
  h.trans ((Chg.of_grown hg).mono fun i _ hi => by
    obtain ⟨h1, t, cs, h2, h3⟩ := hr i hi.symm
    exact ⟨h1, t, cs, h2, h3⟩)
theorem ChT.young {B : Nat} {ts : List TypeId} {a w w' : World} (h : ChT B ts a w) {g : Nat} (hg : w.grownBy w' (some g)) (hge : a.heap.size ≤ g) : ChT B ts a w' :=
  Chg.trans h (Chg.of_grown hg) fun i hi e => by injection e with e; omega
theorem Own.grownB {base : Nat} {e : TypeId} {size : Nat} {A : Option Addr} {n c : Nat} {xs : List Value} {w w' : World} (h : Own w base e size A n c xs) {g : Nat} {t : TypeId} {cs : Array Value} (hg : w.grownBy w' (some g)) (hB : Blk w g t cs) (hne : e ≠ t) : Own w' base e size A n c xs :=
  h.grown hg (.inr (fun e => own_blk_ne h hB hne e.symm))
theorem w64_in {x : Int} (h0 : 0 ≤ x) (h1 : x < 1000000) : wrap64 x = x := by unfold wrap64; omega
theorem i64_in {x : Int} (h0 : 0 ≤ x) (h1 : x < 1000000) : IntKind.i64.wrap x = x := IntWalk.i64_in _ (by omega)
/-- Of the blocks below B that stood only records' rows may have been written. -/
def KP (B : Nat) (w w' : World) : Prop := ∀ i, i < B → i < w.heap.size → (∀ cs, ¬ Blk w i 138 cs) → w'.heap[i]? = w.heap[i]?
section
variable {B : Nat} {w wx wy : World}
theorem KP.below (h : KP B w wx) (hb : Below wx.heap.size wx wy) (hz : w.heap.size ≤ wx.heap.size) : KP B w wy := fun i h1 h2 h3 => (hb.block i (by omega)).trans (h i h1 h2 h3)
theorem KP.of_below (hb : Below w.heap.size w wy) : KP B w wy := fun i _ h2 _ => hb.block i h2
theorem KP.grown (h : KP B w wx) {row : Option Nat} (hg : wx.grownBy wy row) (hz : w.heap.size ≤ wx.heap.size) (hr : ∀ q, row = some q → B ≤ q ∨ w.heap.size ≤ q) : KP B w wy := fun i h1 h2 h3 => (hg.block i (by omega) (fun e => by have := hr i e.symm; omega)).trans (h i h1 h2 h3)
theorem KP.set_ (h : KP B w wx) {g : Nat} {cs : Array Value} (hg : Blk w g 138 cs) (o : Nat) (v : Value) : KP B w (wx.setCell ⟨g, o, none⟩ v) := fun i h1 h2 h3 => (Below.heap_setCell wx ⟨g, o, none⟩ v i (fun e => by simp only at e; subst e; exact h3 cs hg)).trans (h i h1 h2 h3)
end
abbrev noSm : Array Value := #[.int .i64 0, .bool false, .slice none 0 0]
/-- What Take does with a packet of the list k: 'pre' came of the sample ahead of it. -/
def TakeP (w : World) (B base g : Nat) (cl : List Lc) (os : List Og) (k : Nat) (lo : Bool) (pre : List (List Int)) (bs : List Int) (many : Nat) (e : Ending) (w' : World) : Prop := ChT base [138, 22] w w' ∧ KP B w w' ∧
  (pre.length + 1 < many → e = .returned (.tuple #[.agg noSm, .bool false]) ∧ ∃ o' : Og, o'.l.map Bz.bs = pre ++ [bs] ∧ o'.lost = lo ∧ o'.many = many ∧ (∀ g', blkOf o'.A = some g' → B ≤ g') ∧ GAt w' base g cl (os.set k o')) ∧
  (pre.length + 1 = many → ∃ (A' : Option Addr) (c' : Nat) (l' : List Bz), l'.map Bz.bs = pre ++ [bs] ∧ e = .returned (.tuple #[.agg #[.int .i64 k, .bool lo, .slice A' l'.length c'], .bool true]) ∧ Own w' base 22 1 A' l'.length c' (l'.map Bz.v) ∧ (∀ b ∈ l', BzAt w' base b) ∧ GAt w' base g cl (os.set k ⟨none, 0, [], lo, many⟩))
/-- The record as it is when the packet's bytes are put behind. -/
structure TKK (w : World) (B base g : Nat) (cl : List Lc) (os : List Og) (k j : Nat) (lo : Bool) (pre : List (List Int)) (many : Nat) (m gr orr c s : Nat) (P K : Array Value) (o1 : Og) (wx : World) : Prop where
  ga : GAc wx base g cl (os.set k o1) m (some ⟨gr, orr, none⟩) c
  pre : o1.l.map Bz.bs = pre
  len : o1.l.length = j
  lost : o1.lost = lo
  many : o1.many = many
  b0 : Blk wx s 82 P
  b1 : Blk wx (s + 1) 73 noSm
  b2 : Blk wx (s + 2) 136 K
  ch : ChT base [138, 22] w wx
  kp : KP B w wx
  oa : ∀ g', blkOf o1.A = some g' → B ≤ g'
set_option maxHeartbeats 16000000 in
theorem take_any {w : World} {B base g : Nat} {cl : List Lc} {os : List Og} (h : GAt w base g cl os) (hbase : base ≤ w.heap.size) {k j : Nat} {x : Lc} {o : Og} (hx : cl[k]? = some x) (hj : j < x.tabs.length) (hs : x.stim = false) (ho : os[k]? = some o) (hsh : Shut1 os k) (h16 : fT cl cl.length ≤ 16)
    (over : Bool) (hov : over = true → j = 0) (hjl : j ≠ 0 → o.l.length = j) {cd : Int} (hcd : cd = (fT cl k + j : Nat) + (if over then 64 else 0))
    {A : Option Addr} {n c : Nat} {bs : List Int} (hbs : bs.length = n) (hr : By base 5 w A (u8s bs)) (hA : A = none → n = 0 ∧ c = 0) (hn : n ≤ 1000000) (hm : o.many = x.tabs.length) (hoB : ∀ g', blkOf o.A = some g' → B ≤ g') (hBw : B ≤ w.heap.size) :
    Calls Try.prog 29 #[.pointer (some ⟨g, 0, none⟩), .agg #[.int .u8 4, .int .u8 cd, .slice A n c]] w (TakeP w B base g cl os k (if j = 0 then over else o.lost) (if j = 0 then [] else o.l.map Bz.bs) bs o.many) := by
  obtain ⟨m, Ar, cr, hG⟩ := h
  have hkl : k < os.length := (List.getElem?_eq_some_iff.1 ho).1
  obtain ⟨gr, orr, rfl⟩ := hG.at_ (by omega)
  have hkc : k < cl.length := (List.getElem?_eq_some_iff.1 hx).1
  have hkey : fT cl k + j < 16 := by
    have h1 := fT_succ hx
    have h2 := fT_mono cl (show k + 1 ≤ cl.length from hkc)
    omega
  have hPl : Pl cl cl.length 0 (fT cl k + j) k j := ⟨.inl hkc, rfl, x, hx, hj, hs⟩
  obtain ⟨key, hk0⟩ : ∃ key, fT cl k + j = key := ⟨_, rfl⟩
  rw [hk0] at hkey hPl hcd
  have hj16 : j < 16 := by omega
  obtain ⟨lo, hlo⟩ : ∃ lo, (if j = 0 then over else o.lost) = lo := ⟨_, rfl⟩
  obtain ⟨pre, hpre⟩ : ∃ pre, (if j = 0 then [] else o.l.map Bz.bs) = pre := ⟨_, rfl⟩
  obtain ⟨many, hmn⟩ : ∃ many, o.many = many := ⟨_, rfl⟩
  have hpl : pre.length = j := by
    rw [← hpre]
    by_cases h0 : j = 0
    · rw [if_pos h0, h0]; rfl
    · rw [if_neg h0, List.length_map]; exact hjl h0
  have hm16 : j < many ∧ many ≤ 16 := by
    have h1 := fT_succ hx
    have h2 := fT_mono cl (show k + 1 ≤ cl.length from hkc)
    omega
  rw [hlo, hpre, hmn]
  have hd64 : decide (64 ≤ cd) = over := by
    rw [hcd]
    cases over
    · exact decide_eq_false (by simp; omega)
    · exact decide_eq_true (by simp; omega)
  have hiw : IntKind.i64.wrap cd = cd := i64_in (by rw [hcd]; cases over <;> simp <;> omega) (by rw [hcd]; cases over <;> simp <;> omega)
  have hcf : over = false → cd = (key : Int) := fun h => by rw [hcd, h]; simp
  have hct : over = true → wrap64 (cd - 64) = (key : Int) := fun h => by
    rw [hcd, h]
    simp only [if_true]
    rw [w64_in (by omega) (by omega)]
    omega
  have HC := Lib.hid (And.intro hcf hct)
  have HH := Lib.hid (And.intro hG (And.intro ho (And.intro hsh (And.intro hPl (And.intro hkey hbase)))))
  have HV := Lib.hid (And.intro hov (And.intro hjl (And.intro hlo (And.intro hpre (And.intro hmn hpl)))))
  have HR := Lib.hid (And.intro hbs (And.intro hr (And.intro hA hn)))
  have HM := Lib.hid hm16
  have HOB := Lib.hid (And.intro hoB hBw)
  have HGR : Hid (∃ cs, Blk w gr 138 cs) := Lib.hid (hG.row.row (show blkOf (some ⟨gr, orr, none⟩) = some gr from rfl))
  clear hoB hBw
  clear hG ho hsh hPl hkey hbase hov hjl hlo hpre hmn hpl hbs hr hA hn hm hcd hcf hct hx hj hs h16 hk0 hkc hkl hm16
  obtain ⟨s, hsz⟩ : ∃ s, w.heap.size = s := ⟨_, rfl⟩
  go_enter Try.func29, Try.ntmps29
  go_upto_region 1 with fail
  refine wp_named fun W hW => ?_
  obtain ⟨BP, BR, hbW⟩ := blk2 (c1 := #[.int .u8 4, .int .u8 cd, .slice A n c]) (c2 := noSm) hW
  rw [hsz] at BP BR
  have hzW : W.heap.size = s + 2 := by rw [hW, World.size_alloc, World.size_alloc, hsz]
  try rw [hsz]
  clear hW
  have HG := Lib.hid (HH.out.1.below hbW)
  have HBW := Lib.hid (And.intro BP (And.intro BR (And.intro hbW hzW)))
  have cp := BP.cell
  have gc := HG.out.b.cell
  clear BR hbW BP hzW
  go_wp2_with fail
  go_quiet (fail)
  have hbq := bel_drewN (Below.refl W.heap.size W) nq
  have HG2 := Lib.hid (HG.out.below hbq)
  have HB2 : Hid (Blk (W.drewN nq) s 82 #[.int .u8 4, .int .u8 cd, .slice A n c] ∧ Blk (W.drewN nq) (s + 1) 73 noSm ∧ Below w.heap.size w (W.drewN nq) ∧ (W.drewN nq).heap.size = s + 2) := Lib.hid ⟨HBW.out.1.below hbq, HBW.out.2.1.below hbq, HBW.out.2.2.1.trans (hbq.mono HBW.out.2.2.1.size), HBW.out.2.2.2⟩
  clear HG HBW gc cp hbq
  generalize W.drewN nq = w2 at *
  go_upto_if 26 with fail
  go_cut [7] (fun v wx => v = .int .i64 key ∧ wx = w2)
  case first =>
    cases over
    · have hc := HC.out.1 rfl
      subst hc
      go_wp2_with fail
      go_meet
      case rel => exact ⟨rfl, rfl⟩
    · have hc := HC.out.2 rfl
      go_wp2_with fail
      go_meet
      case rel => exact ⟨rfl, rfl⟩
  case rest =>
    obtain ⟨rfl, rfl⟩ := hcut
    have LK := HG2.out.map.look HH.out.2.2.2.1 (by have := HH.out.2.2.2.2.1; omega)
    have gc := HG2.out.b.cell
    clear hd64 hiw
    go_upto_region 9 with fail
    refine wp_named fun W3 hW3 => ?_
    obtain ⟨BK, hb3⟩ := blk1 (c1 := #[.int .i64 k, .int .i64 j]) hW3
    have hz2 : wc.heap.size = s + 2 := HB2.out.2.2.2
    rw [hz2] at BK
    try rw [hz2]
    clear hW3
    have HG3 := Lib.hid (HG2.out.below hb3)
    have HB3 : Hid (Blk W3 s 82 #[.int .u8 4, .int .u8 cd, .slice A n c] ∧ Blk W3 (s + 1) 73 noSm ∧ Blk W3 (s + 2) 136 #[.int .i64 k, .int .i64 j] ∧ Below w.heap.size w W3) := Lib.hid ⟨HB2.out.1.below hb3, HB2.out.2.1.below hb3, BK, HB2.out.2.2.1.trans (hb3.mono HB2.out.2.2.1.size)⟩
    clear HG2 HB2 gc BK hb3 LK hz2
    go_wp2_with fail
    have gc := HG3.out.b.cell
    have kc := HB3.out.2.2.1.cell
    have hkl : k < os.length := (List.getElem?_eq_some_iff.1 HH.out.2.1).1
    have hklI : (k : Int) < os.length := by omega
    go_quiet (fail)
    clear hkl hklI
    have hbq := bel_drewN (Below.refl W3.heap.size W3) nq
    have HG4 := Lib.hid (HG3.out.below hbq)
    have HB4 : Hid (Blk (W3.drewN nq) s 82 #[.int .u8 4, .int .u8 cd, .slice A n c] ∧ Blk (W3.drewN nq) (s + 1) 73 noSm ∧ Blk (W3.drewN nq) (s + 2) 136 #[.int .i64 k, .int .i64 j] ∧ Below w.heap.size w (W3.drewN nq)) := Lib.hid ⟨HB3.out.1.below hbq, HB3.out.2.1.below hbq, HB3.out.2.2.1.below hbq, HB3.out.2.2.2.trans (hbq.mono HB3.out.2.2.2.size)⟩
    clear HG3 HB3 gc kc hbq
    generalize W3.drewN nq = w4 at *
    have kc := HB4.out.2.2.1.cell
    have hwo := HH.out.2.1
    obtain ⟨c0, c1, c2⟩ := HG4.out.cells hwo
    have fz := HG4.out.frz
    have HTK : Hid (ChT base [138, 22] w w4) := Lib.hid (ChT.of_below HB4.out.2.2.2 _ _)
    go_upto_if 50 with fail
    go_cut [10] (fun v wx => v = .pointer (some ⟨gr, orr + k * 3, none⟩) ∧ ∃ o1, TKK w B base g cl os k j lo pre many m gr orr cr s #[.int .u8 4, .int .u8 cd, .slice A n c] #[.int .i64 k, .int .i64 j] o1 wx)
    case first =>
      by_cases hj0 : j = 0
      · subst hj0
        have h1 := HG4.out.set_ hwo { o with A := none, c := 0, l := [] } 0 (.slice none 0 0) (by decide) rfl ⟨Own.nil _ _ _ _, fun b hb => by cases hb⟩
        have hk' : k < os.length := (List.getElem?_eq_some_iff.1 hwo).1
        have h2 := h1.set_ (o := { o with A := none, c := 0, l := [] }) (List.getElem?_set_self hk') { o with A := none, c := 0, l := [], lost := over } 1 (.bool over) (by decide) rfl ⟨Own.nil _ _ _ _, fun b hb => by cases hb⟩
        rw [List.set_set] at h2
        have t1 := HG4.out.chT HTK.out (orr + k * 3 + 0) (.slice none 0 0)
        have t2 := h1.chT t1 (orr + k * 3 + 1) (.bool over)
        have B0 := Lib.hid (And.intro HB4.out.1 (And.intro HB4.out.2.1 HB4.out.2.2.1))
        have hgl : gr < w.heap.size := (HH.out.1.row.lt rfl).2
        have hlv := HV.out
        rw [if_pos rfl, if_pos rfl] at hlv
        have FIN : Hid (∃ o1, TKK w B base g cl os k 0 lo pre many m gr orr cr s #[.int .u8 4, .int .u8 cd, .slice A n c] #[.int .i64 k, .int .i64 ((0 : Nat) : Int)] o1 ((w4.setCell ⟨gr, orr + k * 3, none⟩ (.slice none 0 0)).setCell ⟨gr, orr + k * 3 + 1, none⟩ (.bool over))) := Lib.hid ⟨_, ⟨h2, hlv.2.2.2.1, rfl, hlv.2.2.1, hlv.2.2.2.2.1, (B0.out.1.far (p := ⟨gr, _, none⟩) (by intro e; simp only at e; omega) _).far (p := ⟨gr, _, none⟩) (by intro e; simp only at e; omega) _, (B0.out.2.1.far (p := ⟨gr, _, none⟩) (by intro e; simp only at e; omega) _).far (p := ⟨gr, _, none⟩) (by intro e; simp only at e; omega) _, (B0.out.2.2.far (p := ⟨gr, _, none⟩) (by intro e; simp only at e; omega) _).far (p := ⟨gr, _, none⟩) (by intro e; simp only at e; omega) _, t2, ((KP.of_below HB4.out.2.2.2).set_ HGR.out.choose_spec _ _).set_ HGR.out.choose_spec _ _, fun g' hg' => by cases hg'⟩⟩
        clear h1 h2 t1 t2 B0 hk' hlv hgl hwo
        go_wp2_with fail
        go_meet
        case rel => exact ⟨rfl, FIN.out⟩
      · have hof : over = false := by
          cases over
          · rfl
          · exact absurd (HV.out.1 rfl) hj0
        subst hof
        have hlen := HV.out.2.1 hj0
        have hlv := HV.out
        rw [if_neg hj0, if_neg hj0] at hlv
        have hjI : ((j : Int) == 0) = false := by simp; omega
        have hset : os.set k o = os := by
          apply List.ext_getElem?
          intro i
          by_cases hik : k = i
          · subst hik
            rw [List.getElem?_set_self (List.getElem?_eq_some_iff.1 hwo).1, hwo]
          · rw [List.getElem?_set_ne hik]
        have HT0 : Hid (TKK w B base g cl os k j lo pre many m gr orr cr s #[.int .u8 4, .int .u8 cd, .slice A n c] #[.int .i64 k, .int .i64 j] o w4) := Lib.hid ⟨by rw [hset]; exact HG4.out, hlv.2.2.2.1, hlen, hlv.2.2.1, hlv.2.2.2.2.1, HB4.out.1, HB4.out.2.1, HB4.out.2.2.1, HTK.out, KP.of_below HB4.out.2.2.2, HOB.out.1⟩
        rw [hlen] at c0
        clear hlv hset hwo hlen
        go_wp2_with fail
        go_quiet (fail)
        have hbq := bel_drewN (Below.refl w4.heap.size w4) nq
        have T0 := HT0.out
        have FIN : Hid (∃ o1, TKK w B base g cl os k j lo pre many m gr orr cr s #[.int .u8 4, .int .u8 cd, .slice A n c] #[.int .i64 k, .int .i64 j] o1 (w4.drewN nq)) := Lib.hid ⟨o, ⟨T0.ga.below hbq, T0.pre, T0.len, T0.lost, T0.many, T0.b0.below hbq, T0.b1.below hbq, T0.b2.below hbq, T0.ch.grow hbq, T0.kp.below hbq T0.ch.size, T0.oa⟩⟩
        clear T0 hbq
        go_wp2_with fail
        go_meet
        case rel => exact ⟨rfl, FIN.out⟩
    case rest =>
      obtain ⟨rfl, o1, hT⟩ := hcut
      generalize wc = w5 at *
      obtain ⟨os1, hos1⟩ : ∃ os1, os.set k o1 = os1 := ⟨_, rfl⟩
      have hga := hT.ga
      rw [hos1] at hga
      have hk' : k < os.length := (List.getElem?_eq_some_iff.1 HH.out.2.1).1
      have ho1 : os1[k]? = some o1 := by rw [← hos1, List.getElem?_set_self hk']
      have hsh1 : Shut1 os1 k := fun i o2 hik hi => HH.out.2.2.1 i o2 hik (by rw [← hos1, List.getElem?_set_ne (Ne.symm hik)] at hi; exact hi)
      have hset1 : ∀ o2, os1.set k o2 = os.set k o2 := fun o2 => by rw [← hos1, List.set_set]
      have hlen := hT.len
      have R0 : ∀ w', Below w5.heap.size w5 w' → w'.cell? ⟨gr, orr + k * 3, none⟩ = some (.slice o1.A j o1.c) := fun w' hb => by
        have := ((hga.below hb).cells ho1).1
        rwa [hlen] at this
      have RP := hT.b0.rule
      have hbs : By base 5 w5 A (u8s bs) := HR.out.2.1.chT hT.ch (by decide)
      have CL : Hid (∀ w', Below w5.heap.size w5 w' → Calls Try.prog 40 #[.slice A n c] w' (RetN w' bs n)) := Lib.hid fun w' hb => clone_any A n c bs w' HR.out.1 (hbs.below hb).rd HR.out.2.2.1 HR.out.2.2.2
      have HT := Lib.hid hT
      have HA := Lib.hid (And.intro hga (And.intro ho1 (And.intro hsh1 (And.intro hset1 hlen))))
      have hw5 : base ≤ w5.heap.size := by have h1 := hT.ch.size; have h2 := HH.out.2.2.2.2.2; omega
      clear hT hga ho1 hsh1 hset1 hlen hbs hos1 hk' kc hwo c0 c1 c2 fz HTK HG4 HB4
      go_wp2_with fail
      refine wp_region_any (by kernel_rfl) ?_
      refine wpAny_take (i := 0) (oi := _) (v := ?_) rfl (by kernel_rfl) (by kernel_rfl) (by kernel_rfl) (fun _ _ _ h => h) (Or.inl ⟨by rfl, ?_⟩) ?_
      rotate_left
      · intro w'
        go_simp
        first | done | with_reducible rfl
      try simp only [Act.put, List.setIfInBounds_toArray, List.set_cons_zero, List.set_cons_succ, List.getElem_toArray, List.getElem_cons_zero, List.getElem_cons_succ]
      refine wpAny_g (fun w' => Below w5.heap.size w5 w') Bel (mkG [(7, gRow w5.heap.size 5 1 n (u8s bs)), (8, gBz w5.heap.size n bs)]) [9, 10, 11, 12] [0] (by kernel_rfl) (by kernel_rfl) (by kernel_rfl) (stays_mk _ _) (Below.refl _ _).drew ?_
      refine wpH_gone (by rfl) ?_
      first
        | (refine wpH_skip (by rfl) (by rfl) ?_; try simp only [Act.put, List.setIfInBounds_toArray, List.set_cons_zero, List.set_cons_succ, Nat.reduceAdd])
        | (refine wpH_val (v := ?_) (by rfl) (by rfl) ?_ ?_; rotate_left; · (intro w' hS hF; go_simp; first | done | with_reducible rfl)
           try simp only [Act.put, List.setIfInBounds_toArray, List.set_cons_zero, List.set_cons_succ, Nat.reduceAdd])
      first
        | (refine wpH_skip (by rfl) (by rfl) ?_; try simp only [Act.put, List.setIfInBounds_toArray, List.set_cons_zero, List.set_cons_succ, Nat.reduceAdd])
        | (refine wpH_val (v := ?_) (by rfl) (by rfl) ?_ ?_; rotate_left; · (intro w' hS hF; go_simp; first | done | with_reducible rfl)
           try simp only [Act.put, List.setIfInBounds_toArray, List.set_cons_zero, List.set_cons_succ, Nat.reduceAdd])
      first
        | (refine wpH_skip (by rfl) (by rfl) ?_; try simp only [Act.put, List.setIfInBounds_toArray, List.set_cons_zero, List.set_cons_succ, Nat.reduceAdd])
        | (refine wpH_val (v := ?_) (by rfl) (by rfl) ?_ ?_; rotate_left; · (intro w' hS hF; go_simp; first | done | with_reducible rfl)
           try simp only [Act.put, List.setIfInBounds_toArray, List.set_cons_zero, List.set_cons_succ, Nat.reduceAdd])
      first
        | (refine wpH_skip (by rfl) (by rfl) ?_; try simp only [Act.put, List.setIfInBounds_toArray, List.set_cons_zero, List.set_cons_succ, Nat.reduceAdd])
        | (refine wpH_val (v := ?_) (by rfl) (by rfl) ?_ ?_; rotate_left; · (intro w' hS hF; go_simp; first | done | with_reducible rfl)
           try simp only [Act.put, List.setIfInBounds_toArray, List.set_cons_zero, List.set_cons_succ, Nat.reduceAdd])
      first
        | (refine wpH_skip (by rfl) (by rfl) ?_; try simp only [Act.put, List.setIfInBounds_toArray, List.set_cons_zero, List.set_cons_succ, Nat.reduceAdd])
        | (refine wpH_val (v := ?_) (by rfl) (by rfl) ?_ ?_; rotate_left; · (intro w' hS hF; go_simp; first | done | with_reducible rfl)
           try simp only [Act.put, List.setIfInBounds_toArray, List.set_cons_zero, List.set_cons_succ, Nat.reduceAdd])
      first
        | (refine wpH_skip (by rfl) (by rfl) ?_; try simp only [Act.put, List.setIfInBounds_toArray, List.set_cons_zero, List.set_cons_succ, Nat.reduceAdd])
        | (refine wpH_val (v := ?_) (by rfl) (by rfl) ?_ ?_; rotate_left; · (intro w' hS hF; go_simp; first | done | with_reducible rfl)
           try simp only [Act.put, List.setIfInBounds_toArray, List.set_cons_zero, List.set_cons_succ, Nat.reduceAdd])
      refine wpH_grow (by rfl) rfl (by rfl) (fun w' hS hF K hK => ?_) (fun g7 => ?_)
      · go_simp
        go_wp2_with (with_reducible refine ((CL.out w' hS).mono ?_))
        rintro e w2 ⟨A6, c6, rfl, hO6, hb6⟩
        exact hK (A6, c6) w2 hb6 (hO6.more hS.size)
      obtain ⟨Ag7, cg7⟩ := g7
      try dsimp only [gVal, gEmpty, gRow, gLit, gPtr, gBz]
      try simp only [Act.put, List.setIfInBounds_toArray, List.set_cons_zero, List.set_cons_succ, Nat.reduceAdd]
      refine wpH_grow (by rfl) rfl (by rfl) (fun w' hS hF K hK => ?_) (fun g8 => ?_)
      · have f7 : Own w' w5.heap.size 5 1 _ n _ (u8s bs) := hF _ _ (.head _) (needs_of (by kernel_rfl))
        go_simp
        exact hK (none, w'.heap.size) _ (bl1 _ _) ⟨hS.size, _, _, Blk.new _ _ _, f7.below (bl1 _ _)⟩
      obtain ⟨Ag8, cg8⟩ := g8
      try dsimp only [gVal, gEmpty, gRow, gLit, gPtr, gBz]
      try simp only [Act.put, List.setIfInBounds_toArray, List.set_cons_zero, List.set_cons_succ, Nat.reduceAdd]
      refine wpH_tail (by rfl) ?_
      refine wpH_tail (by rfl) ?_
      refine wpH_tail (by rfl) ?_
      refine wpH_tail (by rfl) ?_
      refine wpH_done (fun w8 hS hF => ?_)
      have f8 := hF _ _ (.head _)
      have f7 := hF _ _ (.tail _ (.head _))
      try dsimp only [gVal, gEmpty, gRow, gLit, gPtr, gBz] at f7 f8
      clear hF
      simp only [List.filterMap_cons, List.filterMap_nil, List.getElem?_toArray, List.getElem?_cons_succ, List.getElem?_cons_zero]
      clear RP
      obtain ⟨f81, A7, c7, f82, f83⟩ := f8
      have HG8 := Lib.hid (HA.out.1.below hS)
      have HO8 : Hid (Own w8 base 22 1 o1.A j o1.c (o1.l.map Bz.v)) := Lib.hid (by
        have := (HG8.out.os o1 (List.mem_of_getElem? HA.out.2.1)).1
        rwa [HA.out.2.2.2.2] at this)
      have HR8 := Lib.hid (Blk.rd (cs := [.slice A7 n c7]) f82)
      have hbz : base ≤ w8.heap.size := Nat.le_trans hw5 hS.size
      have hm1 : j + 1 ≤ maxLen := by unfold maxLen; omega
      have hm2 : (j + 1) * 24 ≤ 140737488355328 := by omega
      refine wpList_app _ rfl (.tmp 77) (.tmp 81) 29 rfl base 22 (.slice none 0 0) 1 24 Try.underlying29 info22 rfl (by decide) o1.A j o1.c _ rfl HO8.out _ _ 1 1 [.slice A7 n c7] rfl rfl HR8.out (by intro u hu; simp at hu; subst hu; rfl) hm1 hm2 hbz ?_
      intro A9 c9 w9 ho9 hg9 hbk9
      obtain ⟨J, hJ⟩ : ∃ J, j + 1 = J := ⟨_, rfl⟩
      rw [hJ] at ho9
      try rw [hJ]
      have hrow : blkOf o1.A = none ∨ ∃ q cs, blkOf o1.A = some q ∧ Blk w8 q 22 cs := by
        rcases hA : blkOf o1.A with _ | q
        · exact .inl rfl
        · obtain ⟨cs, hcs⟩ := HO8.out.row hA
          exact .inr ⟨q, cs, rfl, hcs⟩
      have hnb : ∀ {q : Nat} {t : TypeId} {cs : Array Value}, Blk w8 q t cs → t ≠ 22 → some q ≠ blkOf o1.A := fun hq ht e => by
        rcases hrow with h | ⟨r, cs', h, hr⟩
        · rw [h] at e; cases e
        · rw [h] at e
          injection e with e
          subst e
          exact ht (blk_ty hq hr)
      have hbzs : ∀ {base' : Nat} {A' : Option Addr} {n' c' : Nat} {xs : List Value}, Own w8 base' 5 1 A' n' c' xs → Own w9 base' 5 1 A' n' c' xs := fun h => h.grown hg9 (own_own_ne h HO8.out (by decide))
      have hbsn := HR.out.1
      obtain ⟨o9, ho9e⟩ : ∃ o9 : Og, o9 = ⟨A9, c9, o1.l ++ [⟨A7, c7, bs⟩], o1.lost, o1.many⟩ := ⟨_, rfl⟩
      have hl9 : o9.l.length = J := by rw [ho9e, List.length_append, HA.out.2.2.2.2]; exact hJ
      have hat9 : OgAt w9 base o9 := by
        refine ⟨?_, fun b hb => ?_⟩
        · rw [hl9]
          rw [ho9e]
          simp only [List.map_append, List.map_cons, List.map_nil, Bz.v, hbsn]
          exact ho9
        · rw [ho9e] at hb
          rcases List.mem_append.1 hb with hb | hb
          · exact hbzs ((HG8.out.os o1 (List.mem_of_getElem? HA.out.2.1)).2 b hb)
          · rw [List.mem_singleton.1 hb]
            unfold BzAt
            simp only [hbsn]
            exact hbzs (f83.more hw5)
      have hG9 := GAc.renew HG8.out HA.out.2.1 HA.out.2.2.1 hg9 hrow o9 (by rw [ho9e]) (by rw [ho9e]) hat9
      rw [HA.out.2.2.2.1, hl9] at hG9
      have c9r : w9.cell? ⟨gr, orr + k * 3, none⟩ = some (.slice o1.A j o1.c) := by
        obtain ⟨cs, hcs⟩ := HG8.out.row.row (show blkOf (some ⟨gr, orr, none⟩) = some gr from rfl)
        have h1 := hcs.cell (orr + k * 3)
        have h2 := (hcs.grown hg9 (hnb hcs (by decide))).cell (orr + k * 3)
        rw [h2, ← h1]
        exact R0 w8 hS
      have f9r : w9.frozen? ⟨gr, orr + k * 3, none⟩ = false := by
        obtain ⟨cs, hcs⟩ := HG8.out.row.row (show blkOf (some ⟨gr, orr, none⟩) = some gr from rfl)
        exact (hcs.grown hg9 (hnb hcs (by decide))).frozen _
      have hT9 : ChT base [138, 22] w5 (w9.setCell ⟨gr, orr + k * 3, none⟩ (.slice A9 J c9)) := by
        obtain ⟨cs, hcs⟩ := HG8.out.row.row (show blkOf (some ⟨gr, orr, none⟩) = some gr from rfl)
        have h1 : ChT base [138, 22] w5 w9 := (ChT.of_below hS _ _).grown_ hg9 (fun q hq => by
          obtain ⟨cs', hq'⟩ := HO8.out.row hq
          exact ⟨(HO8.out.lt hq).1, 22, cs', hq', by simp⟩)
        exact h1.set_ (hcs.grown hg9 (hnb hcs (by decide))) (by simp) (HG8.out.row.lt rfl).1 _
      have hA9 : o9.A = A9 ∧ o9.c = c9 ∧ o9.lost = lo ∧ o9.many = many ∧ o9.l.map Bz.bs = pre ++ [bs] := by
        rw [ho9e]
        exact ⟨rfl, rfl, HT.out.lost, HT.out.many, by rw [List.map_append, HT.out.pre]; rfl⟩
      rw [hA9.1, hA9.2.1] at hG9
      have hkp9 : KP B w (w9.setCell ⟨gr, orr + k * 3, none⟩ (.slice A9 J c9)) := by
        have hz5 := HT.out.ch.size
        have h1 := (HT.out.kp.below hS hz5).grown hg9 (Nat.le_trans hz5 hS.size) (fun q hq => .inl (HT.out.oa q hq))
        exact h1.set_ HGR.out.choose_spec _ _
      have hoa9 : ∀ g', blkOf o9.A = some g' → B ≤ g' := by
        intro g' hg'
        rw [hA9.1] at hg'
        rcases hbk9 with h | h
        · rw [h] at hg'
          exact HT.out.oa g' hg'
        · rw [h] at hg'
          injection hg' with hg'
          have h1 := HOB.out.2
          have h2 := HT.out.ch.size
          have h3 := hS.size
          omega
      have HKP := Lib.hid (And.intro hkp9 hoa9)
      have HF := Lib.hid (And.intro hG9 (And.intro hT9 (And.intro hA9 (And.intro hl9 (And.intro hJ (hat9.1))))))
      clear hkp9 hoa9 hG9 hT9 hA9 hl9 ho9e hat9 hbsn hbzs hnb hrow ho9 hg9 hbk9 hm1 hm2 f81 f82 f83 R0 CL HR8 HG8 HO8 hJ
      go_wp2_with fail
      refine wp_named fun W9 hW9 => ?_
      rw [← hW9] at HF HKP
      clear hW9 c9r f9r hbz hS
      have hk' : k < os.length := (List.getElem?_eq_some_iff.1 HH.out.2.1).1
      obtain ⟨d0, d1, d2⟩ := HF.out.1.cells (List.getElem?_set_self hk')
      have fz := HF.out.1.frz
      rw [HF.out.2.2.1.1, HF.out.2.2.1.2.1, HF.out.2.2.2.1] at d0
      rw [HF.out.2.2.1.2.2.1] at d1
      rw [HF.out.2.2.1.2.2.2.1] at d2
      have B0 := Lib.hid (And.intro (HT.out.b1.chT HF.out.2.1 (by decide)) (HT.out.b2.chT HF.out.2.1 (by decide)))
      have HCH := Lib.hid (HT.out.ch.trans HF.out.2.1)
      clear hk'
      by_cases hJm : J < many
      · have hdm : decide ((J : Int) < (many : Int)) = true := decide_eq_true (by omega)
        have hJI : (J : Int) < (many : Int) := by omega
        go_quiet (fail)
        have hbq := bel_drewN (Below.refl W9.heap.size W9) nq
        have BS := B0.out.1.below hbq
        have FIN : Hid (∀ w', (W9.drewN nq).grownBy w' (some (s + 1)) → TakeP w B base g cl os k lo pre bs many (.returned (.tuple #[.agg noSm, .bool false])) w') := Lib.hid fun w' hg => by
          have hBs := B0.out.1.below hbq
          have hg0 := (HF.out.1.below hbq)
          refine ⟨(HCH.out.grow hbq).young hg (by omega), (HKP.out.1.below hbq HCH.out.size).grown hg HCH.out.size (fun q hq => by injection hq with hq; right; omega), fun _ => ⟨rfl, o9, HF.out.2.2.1.2.2.2.2, HF.out.2.2.1.2.2.1, HF.out.2.2.1.2.2.2.1, HKP.out.2, GAt.chF ⟨m, _, _, hg0⟩ (Chg.of_grown hg) fun i hi _ => .inr ⟨73, _, by injection hi with hi; subst hi; exact hBs, by decide, by decide, by decide, by decide⟩⟩, fun e => ?_⟩
          have := HV.out.2.2.2.2.2
          have := HF.out.2.2.2.2.1
          omega
        clear hbq d0 d1 d2 fz
        go_wp2_with (refine wpList_stB rfl 73 (.tmp 4) (.tmp 95) rfl (.agg #[.int .i64 0, .bool false, .slice none 0 0]) 0 rfl rfl BS (by simp [Value.cells]) (by kernel_rfl) (by simp [Value.cells, Value.oneCell']) ?_; intro w10 B10 hg10)
        refine bodyPost_ret (v := .tuple #[.agg noSm, .bool false]) (results_blk2 Try.results29 _ w10 (s + 1) 73 _ _ rfl B10 Try.underlying73 rfl (by kernel_rfl)) rfl (FIN.out _ hg10)
      · have hdm : decide ((J : Int) < (many : Int)) = false := decide_eq_false (by omega)
        have hJI : ¬ (J : Int) < (many : Int) := by omega
        go_quiet (fail)
        have hbq := bel_drewN (Below.refl W9.heap.size W9) nq
        have HG6 := Lib.hid (HF.out.1.below hbq)
        have HB6 : Hid (Blk (W9.drewN nq) (s + 1) 73 noSm ∧ Blk (W9.drewN nq) (s + 2) 136 #[.int .i64 k, .int .i64 j] ∧ ChT base [138, 22] w (W9.drewN nq) ∧ OgAt (W9.drewN nq) base o9) := Lib.hid ⟨B0.out.1.below hbq, B0.out.2.below hbq, HCH.out.grow hbq, (HF.out.1.below hbq).os o9 (List.mem_of_getElem? (List.getElem?_set_self (List.getElem?_eq_some_iff.1 HH.out.2.1).1))⟩
        have HD6 : Hid (o9.A = A9 ∧ o9.c = c9 ∧ o9.lost = lo ∧ o9.many = many ∧ o9.l.map Bz.bs = pre ++ [bs] ∧ o9.l.length = J) := Lib.hid ⟨HF.out.2.2.1.1, HF.out.2.2.1.2.1, HF.out.2.2.1.2.2.1, HF.out.2.2.1.2.2.2.1, HF.out.2.2.1.2.2.2.2, HF.out.2.2.2.1⟩
        have HK6 := Lib.hid (HKP.out.1.below hbq HCH.out.size)
        have HJ6 : Hid (J = j + 1) := Lib.hid HF.out.2.2.2.2.1.symm
        clear hbq d0 d1 d2 fz HF B0 HCH HT HA HKP
        generalize W9.drewN nq = w6 at *
        have hk' : k < os.length := (List.getElem?_eq_some_iff.1 HH.out.2.1).1
        have RG : ∀ w', Below w6.heap.size w6 w' → w'.cell? ⟨gr, orr + k * 3, none⟩ = some (.slice A9 J c9) ∧ w'.cell? ⟨gr, orr + k * 3 + 1, none⟩ = some (.bool lo) := fun w' hb => by
          obtain ⟨d0, d1, d2⟩ := (HG6.out.below hb).cells (List.getElem?_set_self hk')
          rw [HD6.out.1, HD6.out.2.1, HD6.out.2.2.2.2.2] at d0
          rw [HD6.out.2.2.1] at d1
          exact ⟨d0, d1⟩
        have RG0 := fun w' hb => (RG w' hb).1
        have RG1 := fun w' hb => (RG w' hb).2
        have RK := HB6.out.2.1.rule
        clear RG hk' hdm
        go_wp2_with fail
        refine wp_region_any (by kernel_rfl) ?_
        refine wpAny_g (fun w' => Below w6.heap.size w6 w') Bel (mkG [(11, gPtr w6.heap.size 73 #[.int .i64 0, .bool false, .slice none 0 0])]) [12] [] (by kernel_rfl) (by kernel_rfl) (by kernel_rfl) (stays_mk _ _) (Below.refl _ _).drew ?_
        first
          | (refine wpH_skip (by rfl) (by rfl) ?_; try simp only [Act.put, List.setIfInBounds_toArray, List.set_cons_zero, List.set_cons_succ, Nat.reduceAdd])
          | (refine wpH_val (v := ?_) (by rfl) (by rfl) ?_ ?_; rotate_left; · (intro w' hS hF; go_simp; first | done | with_reducible rfl)
             try simp only [Act.put, List.setIfInBounds_toArray, List.set_cons_zero, List.set_cons_succ, Nat.reduceAdd])
        first
          | (refine wpH_skip (by rfl) (by rfl) ?_; try simp only [Act.put, List.setIfInBounds_toArray, List.set_cons_zero, List.set_cons_succ, Nat.reduceAdd])
          | (refine wpH_val (v := ?_) (by rfl) (by rfl) ?_ ?_; rotate_left; · (intro w' hS hF; go_simp; first | done | with_reducible rfl)
             try simp only [Act.put, List.setIfInBounds_toArray, List.set_cons_zero, List.set_cons_succ, Nat.reduceAdd])
        first
          | (refine wpH_skip (by rfl) (by rfl) ?_; try simp only [Act.put, List.setIfInBounds_toArray, List.set_cons_zero, List.set_cons_succ, Nat.reduceAdd])
          | (refine wpH_val (v := ?_) (by rfl) (by rfl) ?_ ?_; rotate_left; · (intro w' hS hF; go_simp; first | done | with_reducible rfl)
             try simp only [Act.put, List.setIfInBounds_toArray, List.set_cons_zero, List.set_cons_succ, Nat.reduceAdd])
        first
          | (refine wpH_skip (by rfl) (by rfl) ?_; try simp only [Act.put, List.setIfInBounds_toArray, List.set_cons_zero, List.set_cons_succ, Nat.reduceAdd])
          | (refine wpH_val (v := ?_) (by rfl) (by rfl) ?_ ?_; rotate_left; · (intro w' hS hF; go_simp; first | done | with_reducible rfl)
             try simp only [Act.put, List.setIfInBounds_toArray, List.set_cons_zero, List.set_cons_succ, Nat.reduceAdd])
        first
          | (refine wpH_skip (by rfl) (by rfl) ?_; try simp only [Act.put, List.setIfInBounds_toArray, List.set_cons_zero, List.set_cons_succ, Nat.reduceAdd])
          | (refine wpH_val (v := ?_) (by rfl) (by rfl) ?_ ?_; rotate_left; · (intro w' hS hF; go_simp; first | done | with_reducible rfl)
             try simp only [Act.put, List.setIfInBounds_toArray, List.set_cons_zero, List.set_cons_succ, Nat.reduceAdd])
        first
          | (refine wpH_skip (by rfl) (by rfl) ?_; try simp only [Act.put, List.setIfInBounds_toArray, List.set_cons_zero, List.set_cons_succ, Nat.reduceAdd])
          | (refine wpH_val (v := ?_) (by rfl) (by rfl) ?_ ?_; rotate_left; · (intro w' hS hF; go_simp; first | done | with_reducible rfl)
             try simp only [Act.put, List.setIfInBounds_toArray, List.set_cons_zero, List.set_cons_succ, Nat.reduceAdd])
        first
          | (refine wpH_skip (by rfl) (by rfl) ?_; try simp only [Act.put, List.setIfInBounds_toArray, List.set_cons_zero, List.set_cons_succ, Nat.reduceAdd])
          | (refine wpH_val (v := ?_) (by rfl) (by rfl) ?_ ?_; rotate_left; · (intro w' hS hF; go_simp; first | done | with_reducible rfl)
             try simp only [Act.put, List.setIfInBounds_toArray, List.set_cons_zero, List.set_cons_succ, Nat.reduceAdd])
        first
          | (refine wpH_skip (by rfl) (by rfl) ?_; try simp only [Act.put, List.setIfInBounds_toArray, List.set_cons_zero, List.set_cons_succ, Nat.reduceAdd])
          | (refine wpH_val (v := ?_) (by rfl) (by rfl) ?_ ?_; rotate_left; · (intro w' hS hF; go_simp; first | done | with_reducible rfl)
             try simp only [Act.put, List.setIfInBounds_toArray, List.set_cons_zero, List.set_cons_succ, Nat.reduceAdd])
        first
          | (refine wpH_skip (by rfl) (by rfl) ?_; try simp only [Act.put, List.setIfInBounds_toArray, List.set_cons_zero, List.set_cons_succ, Nat.reduceAdd])
          | (refine wpH_val (v := ?_) (by rfl) (by rfl) ?_ ?_; rotate_left; · (intro w' hS hF; go_simp; first | done | with_reducible rfl)
             try simp only [Act.put, List.setIfInBounds_toArray, List.set_cons_zero, List.set_cons_succ, Nat.reduceAdd])
        first
          | (refine wpH_skip (by rfl) (by rfl) ?_; try simp only [Act.put, List.setIfInBounds_toArray, List.set_cons_zero, List.set_cons_succ, Nat.reduceAdd])
          | (refine wpH_val (v := ?_) (by rfl) (by rfl) ?_ ?_; rotate_left; · (intro w' hS hF; go_simp; first | done | with_reducible rfl)
             try simp only [Act.put, List.setIfInBounds_toArray, List.set_cons_zero, List.set_cons_succ, Nat.reduceAdd])
        first
          | (refine wpH_skip (by rfl) (by rfl) ?_; try simp only [Act.put, List.setIfInBounds_toArray, List.set_cons_zero, List.set_cons_succ, Nat.reduceAdd])
          | (refine wpH_val (v := ?_) (by rfl) (by rfl) ?_ ?_; rotate_left; · (intro w' hS hF; go_simp; first | done | with_reducible rfl)
             try simp only [Act.put, List.setIfInBounds_toArray, List.set_cons_zero, List.set_cons_succ, Nat.reduceAdd])
        refine wpH_grow (by rfl) rfl (by rfl) (fun w' hS hF K hK => ?_) (fun g11 => ?_)
        · go_simp
          exact hK (none, w'.heap.size) _ (bl1 _ _) ⟨hS.size, Blk.new _ _ _⟩
        obtain ⟨Ag11, cg11⟩ := g11
        try dsimp only [gVal, gEmpty, gRow, gLit, gPtr]
        try simp only [Act.put, List.setIfInBounds_toArray, List.set_cons_zero, List.set_cons_succ, Nat.reduceAdd]
        refine wpH_tail (by rfl) ?_
        refine wpH_done (fun w8 hS hF => ?_)
        have f11 := hF _ _ (.head _)
        try dsimp only [gVal, gEmpty, gRow, gLit, gPtr] at f11
        clear hF
        simp only [List.filterMap_cons, List.filterMap_nil, List.getElem?_toArray, List.getElem?_cons_succ, List.getElem?_cons_zero]
        clear RG0 RG1 RK
        have hz6 : s + 2 < w6.heap.size := HB6.out.2.1.lt
        refine wpList_stB rfl 73 (.tmp 11) (.tmp 106) rfl (.agg #[.int .i64 k, .bool lo, .slice A9 J c9]) 0 rfl rfl f11.2 (by simp [Value.cells]) (by kernel_rfl) (by simp [Value.cells, Value.oneCell']) ?_
        intro w10 B10 hg10
        have hg11 := f11.1
        have hne : ∀ {q : Nat} {t : TypeId} {cs : Array Value}, Blk w8 q t cs → q < w6.heap.size → some q ≠ some cg11 := fun _ hq e => by injection e with e; omega
        have hG10 : GAc w10 base g cl (os.set k o9) m (some ⟨gr, orr, none⟩) cr := by
          have h8 := HG6.out.below hS
          have hc : Chg (fun i => i = cg11) w8 w10 := (Chg.of_grown hg10).mono fun i _ e => by injection e
          refine ⟨h8.b.chg hc ?_, h8.gb, h8.mb, h8.map.grown hg10 ?_, h8.row.chg hc ?_, fun o2 h2 => (h8.os o2 h2).chF hc ?_⟩
          · intro e
            have := HG6.out.b.lt
            omega
          · intro e
            injection e with e
            have := HG6.out.map.lt
            omega
          · intro q hq e
            have := (HG6.out.row.lt hq).2
            omega
          · intro i hi _
            subst hi
            exact .inr ⟨73, _, f11.2, by decide, by decide⟩
        have hB10 : Blk w10 (s + 1) 73 noSm := (HB6.out.1.below hS).grown hg10 (hne (HB6.out.1.below hS) (by omega))
        have hT10 : ChT base [138, 22] w w10 := (HB6.out.2.2.1.grow hS).young hg10 (by omega)
        have hK10 : KP B w (w10.setCell ⟨gr, orr + k * 3 + 0, none⟩ (.slice none 0 0)) := ((HK6.out.below hS HB6.out.2.2.1.size).grown hg10 (Nat.le_trans HB6.out.2.2.1.size hS.size) (fun q hq => by injection hq with hq; have := HB6.out.2.2.1.size; right; omega)).set_ HGR.out.choose_spec _ _
        have hA10 : OgAt w10 base o9 := hG10.os o9 (List.mem_of_getElem? (List.getElem?_set_self (List.getElem?_eq_some_iff.1 HH.out.2.1).1))
        have hG11 := hG10.set_ (List.getElem?_set_self (List.getElem?_eq_some_iff.1 HH.out.2.1).1) ⟨none, 0, [], lo, many⟩ 0 (.slice none 0 0) (by decide) (by simp only [Og.cs, putL, List.set_cons_zero, HD6.out.2.2.1, HD6.out.2.2.2.1]; rfl) ⟨Own.nil _ _ _ _, fun b hb => by cases hb⟩
        rw [List.set_set] at hG11
        have hT11 := hG10.chT hT10 (orr + k * 3 + 0) (.slice none 0 0)
        obtain ⟨csr, hcsr⟩ := hG10.row.row (show blkOf (some ⟨gr, orr, none⟩) = some gr from rfl)
        have hA11 : OgAt (w10.setCell ⟨gr, orr + k * 3 + 0, none⟩ (.slice none 0 0)) base o9 := hA10.chF ((Chg.refl (fun i => i = gr) _).at_ (q := gr) (Eq.refl gr) _ _) fun i hi _ => .inr ⟨138, csr, by rw [hi]; exact hcsr, by decide, by decide⟩
        have hgl : gr < w.heap.size := (HH.out.1.row.lt rfl).2
        have hB11 : Blk (w10.setCell ⟨gr, orr + k * 3 + 0, none⟩ (.slice none 0 0)) (s + 1) 73 noSm := hB10.far (p := ⟨gr, orr + k * 3 + 0, none⟩) (by intro e; simp only at e; omega) _
        have hC11 : Blk (w10.setCell ⟨gr, orr + k * 3 + 0, none⟩ (.slice none 0 0)) cg11 73 #[.int .i64 k, .bool lo, .slice A9 J c9] := Blk.far (show Blk w10 cg11 73 #[.int .i64 k, .bool lo, .slice A9 J c9] from B10) (p := ⟨gr, orr + k * 3 + 0, none⟩) (by intro e; simp only at e; omega) _
        have k10 : w10.cell? ⟨gr, orr + k * 3, none⟩ = some (.slice A9 J c9) := by
          have := (hG10.cells (List.getElem?_set_self (List.getElem?_eq_some_iff.1 HH.out.2.1).1)).1
          rw [HD6.out.1, HD6.out.2.1, HD6.out.2.2.2.2.2] at this
          exact this
        have fk := hG10.frz
        simp only [Nat.add_zero] at hG11 hT11 hA11 hB11 hC11 hK10
        have HK11 := Lib.hid hK10
        clear hK10
        have HE := Lib.hid (And.intro hG11 (And.intro hT11 (And.intro hA11 (And.intro hB11 hC11))))
        clear hG11 hT11 hA11 hB11 hC11 hcsr hG10 hT10 hA10 hB10 B10 hg10 hg11 f11 hne hz6 hgl
        have BS := HE.out.2.2.2.1
        have cc := HE.out.2.2.2.2.cell
        go_wp2_with (refine wpList_stB rfl 73 (.tmp 4) (.tmp 110) rfl (.agg #[.int .i64 k, .bool lo, .slice A9 J c9]) 0 rfl rfl BS (by simp [Value.cells]) (by kernel_rfl) (by simp [Value.cells, Value.oneCell']) ?_; intro w12 B12 hg12)
        have FIN : TakeP w B base g cl os k lo pre bs many (.returned (.tuple #[.agg #[.int .i64 k, .bool lo, .slice A9 J c9], .bool true])) w12 := by
          have hc : Chg (fun i => i = s + 1) (w10.setCell ⟨gr, orr + k * 3, none⟩ (.slice none 0 0)) w12 := (Chg.of_grown hg12).mono fun i _ e => by injection e
          have hF : ∀ i, i = s + 1 → i < (w10.setCell ⟨gr, orr + k * 3, none⟩ (.slice none 0 0)).heap.size → ∃ t cs, Blk (w10.setCell ⟨gr, orr + k * 3, none⟩ (.slice none 0 0)) i t cs ∧ t ≠ 134 ∧ t ≠ 138 ∧ t ≠ 22 ∧ t ≠ 5 := fun i hi _ => ⟨73, noSm, by rw [hi]; exact BS, by decide, by decide, by decide, by decide⟩
          have h12 := HE.out.2.2.1.chF hc fun i hi hl => by
            obtain ⟨t, cs, h1, h2, h3, h4, h5⟩ := hF i hi hl
            exact .inr ⟨t, cs, h1, h4, h5⟩
          refine ⟨HE.out.2.1.young hg12 (by omega), HK11.out.grown hg12 HE.out.2.1.size (fun q hq => by injection hq with hq; right; omega), fun e => ?_, fun _ => ⟨A9, c9, o9.l, HD6.out.2.2.2.2.1, by rw [HD6.out.2.2.2.2.2], ?_, h12.2, GAt.chF ⟨m, _, _, HE.out.1⟩ hc fun i hi hl => .inr (hF i hi hl)⟩⟩
          · have h1 := HV.out.2.2.2.2.2
            have h2 := HJ6.out
            omega
          · have := h12.1
            rw [HD6.out.1, HD6.out.2.1] at this
            exact this
        refine bodyPost_ret (v := .tuple #[.agg #[.int .i64 k, .bool lo, .slice A9 J c9], .bool true]) (results_blk2 Try.results29 _ w12 (s + 1) 73 _ _ rfl B12 Try.underlying73 rfl (by kernel_rfl)) rfl FIN
end Go.Proofs.Yteecgdbicokgoaa
