/- Daq: New, a list, a table, whether one runs, whether one may run. -/
import Derived.Test.YteecgdbicokgoaaG0
import Derived.Test.YteecgdbicokgoaaConf
namespace Go.Proofs.Yteecgdbicokgoaa
open Go.RowKit
set_option linter.unusedVariables false
set_option linter.unusedSimpArgs false
set_option maxRecDepth 100000
/-- What New answers. -/
def NewDP (Φ : Who) (B : Nat) (w : World) (ev : Nat) (e : Ending) (w' : World) : Prop := ∃ q Φ', e = .returned (.tuple #[.pointer (some ⟨q, 0, none⟩), .int .i64 0]) ∧ w.heap.size ≤ q ∧ DX Φ' B w' q ⟨ev, 0, [], none⟩ ∧ Ext B (fun _ => False) Φ Φ' w w'
theorem new0_ok (ev : Nat) (h1 : 1 ≤ ev) (h4 : ev ≤ 4) : (Dq.mk ev 0 [] none).ok :=
  ⟨h1, h4, Nat.zero_le _, Nat.zero_le _, Nat.zero_le _, (fun x hx => by cases hx), (fun x hx => by cases hx), (fun x hx => by cases hx), fun _ => rfl, fun p hp => by cases hp⟩
theorem newd_any (Φ : Who) (B : Nat) (ev : Nat) (w : World) (hB : B ≤ w.heap.size) (hN : Nu Φ w) (h1 : 1 ≤ ev) (h4 : ev ≤ 4) : Calls Try.prog 44 #[.int .i64 ev] w (NewDP Φ B w ev) := by
  have h1' : (1 : Int) ≤ ev := by omega
  have h4' : (ev : Int) ≤ 4 := by omega
  have h1d : decide ((ev : Int) < 1) = false := decide_eq_false (by omega)
  have h4d : decide ((4 : Int) < ev) = false := decide_eq_false (by omega)
  go_enter Try.func44, Try.ntmps44
  go_wp2_with fail
  go_ret2
  have hx := Ext.fresh (B := B) (k := (w.heap.size, 0)) (A := some ⟨w.heap.size, 0, none⟩) hN (bl1 w (.cells #[.int .i64 ev, .int .i64 0, .slice none 0 0, .pointer none] 164)) (fun g hg => by simp [blkOf] at hg; subst hg; simp)
  exact ⟨w.heap.size, _, rfl, Nat.le_refl _, ⟨new0_ok ev h1 h4, none, 0, [], none, rfl, hB, paint_at rfl, Blk.new _ _ _, OwC.nil _ _ _ _ _ _, (fun i x hx => by simp at hx), (fun i x k t hx => by simp at hx), rfl⟩, hx⟩
section
variable {Φ : Who} {B : Nat} {w : World} {q evs step c0 : Nat} {A0 P : Option Addr} {cl : List Lc} {pt : Option (Nat × Nat × Nat)}
theorem DXc.cells (h : DXc Φ B w q evs step A0 c0 cl P pt) : ∀ i, w.cell? ⟨q, i, none⟩ = (#[.int .i64 evs, .int .i64 step, .slice A0 cl.length c0, .pointer P] : Array Value)[i]? := h.blk.cell
theorem DXc.lcell (h : DXc Φ B w q evs step A0 c0 cl P pt) {g o : Nat} (hA : A0 = some ⟨g, o, none⟩) {i : Nat} {x : Lc} (hx : cl[i]? = some x) : ∀ j u, x.cs[j]? = some u → w.cell? ⟨g, o + i * 8 + j, none⟩ = some u := fun j u hu => by
  subst hA
  have := h.row.1.cells _ u (lcells_at hx hu)
  rw [← Nat.add_assoc] at this
  exact this
theorem DXc.ad (h : DXc Φ B w q evs step A0 c0 cl P pt) {i : Nat} (hi : i < cl.length) : ∃ g o, A0 = some ⟨g, o, none⟩ := h.row.1.at_ (by omega)
theorem DXc.tcell (h : DXc Φ B w q evs step A0 c0 cl P pt) {i : Nat} {x : Lc} (hx : cl[i]? = some x) {g o : Nat} (hA : x.A = some ⟨g, o, none⟩) {k : Nat} {t : Tb} (ht : x.tabs[k]? = some t) : w.cell? ⟨g, o + k, none⟩ = some (.slice t.A t.es.length t.c) := by
  have h1 := (h.tab i x hx).1
  rw [hA] at h1
  exact h1.cells _ _ (tcells_at ht)
theorem DXc.ecell (h : DXc Φ B w q evs step A0 c0 cl P pt) {i : Nat} {x : Lc} (hx : cl[i]? = some x) {k : Nat} {t : Tb} (ht : x.tabs[k]? = some t) {g o : Nat} (hA : t.A = some ⟨g, o, none⟩) {z : Nat} {y : En} (hy : t.es[z]? = some y) : ∀ j u, y.cs[j]? = some u → w.cell? ⟨g, o + z * 3 + j, none⟩ = some u := fun j u hu => by
  have h1 := (h.ent i x k t hx ht).1
  rw [hA] at h1
  have := h1.cells _ u (ecells_at hy hu)
  rw [← Nat.add_assoc] at this
  exact this
theorem list_no (h : DXc Φ B w q evs step A0 c0 cl P pt) {i : Nat} (hi : cl.length ≤ i) (h8 : i < 256) : Calls Try.prog 119 #[.pointer (some ⟨q, 0, none⟩), .int .u8 i] w fun e w' => e = .returned (.pointer none) ∧ w = w' := by
  have hc := h.cells
  have hiI : (cl.length : Int) ≤ i := by omega
  have hiD : decide ((i : Int) ≥ cl.length) = true := decide_eq_true hiI
  have h8I : (i : Int) < 256 := by omega
  go_enter Try.func119, Try.ntmps119
  go_wp2_with fail
  go_ret
  exact ⟨rfl, rfl⟩
theorem list_yes (h : DXc Φ B w q evs step A0 c0 cl P pt) {g o : Nat} (hA : A0 = some ⟨g, o, none⟩) {i : Nat} (hi : i < cl.length) (h8 : i < 256) : Calls Try.prog 119 #[.pointer (some ⟨q, 0, none⟩), .int .u8 i] w fun e w' => e = .returned (.pointer (some ⟨g, o + i * 8, none⟩)) ∧ w = w' := by
  subst hA
  have hc := h.cells
  have hiI : (i : Int) < cl.length := by omega
  have hiN : ¬ ((cl.length : Int) ≤ i) := by omega
  have h8I : (i : Int) < 256 := by omega
  go_enter Try.func119, Try.ntmps119
  go_wp2_with fail
  go_ret
  exact ⟨rfl, rfl⟩
theorem table_no (h : DXc Φ B w q evs step A0 c0 cl P pt) {i k : Nat} (h8 : i < 256) (h8' : k < 256) (hno : ∀ x, cl[i]? = some x → x.tabs.length ≤ k) : Calls Try.prog 120 #[.pointer (some ⟨q, 0, none⟩), .int .u8 i, .int .u8 k] w fun e w' => e = .returned (.pointer none) ∧ w = w' := by
  rcases Nat.lt_or_ge i cl.length with hi | hi
  · obtain ⟨x, hx⟩ : ∃ x, cl[i]? = some x := ⟨_, List.getElem?_eq_getElem hi⟩
    obtain ⟨g, o, rfl⟩ := h.ad hi
    have L := Lib.hid (list_yes h rfl hi h8)
    have q1 := h.lcell rfl hx 1 _ rfl
    have hk := hno x hx
    have hkI : (x.tabs.length : Int) ≤ k := by omega
    have hkD : decide ((k : Int) ≥ x.tabs.length) = true := decide_eq_true hkI
    have h8I : (k : Int) < 256 := by omega
    clear h hno
    go_enter Try.func120, Try.ntmps120
    go_wp2_with fail
    refine L.out.mono ?_
    rintro e w' ⟨rfl, rfl⟩
    go_wp2_with fail
    go_ret
    exact ⟨rfl, rfl⟩
  · have L := Lib.hid (list_no h hi h8)
    clear h hno
    go_enter Try.func120, Try.ntmps120
    go_wp2_with fail
    refine L.out.mono ?_
    rintro e w' ⟨rfl, rfl⟩
    go_wp2_with fail
    go_ret
    exact ⟨rfl, rfl⟩
set_option maxRecDepth 10000 in
theorem table_yes (h : DXc Φ B w q evs step A0 c0 cl P pt) {i k : Nat} (h8 : i < 256) (h8' : k < 256) {x : Lc} (hx : cl[i]? = some x) (hk : k < x.tabs.length) {g o : Nat} (hA : x.A = some ⟨g, o, none⟩) : Calls Try.prog 120 #[.pointer (some ⟨q, 0, none⟩), .int .u8 i, .int .u8 k] w fun e w' => e = .returned (.pointer (some ⟨g, o + k, none⟩)) ∧ w = w' := by
  have hi : i < cl.length := (List.getElem?_eq_some_iff.1 hx).1
  obtain ⟨gL, oL, rfl⟩ := h.ad hi
  have L := Lib.hid (list_yes h rfl hi h8)
  have q1 := h.lcell rfl hx 1 _ rfl
  have hkI : (k : Int) < x.tabs.length := by omega
  have hkD : ¬ ((x.tabs.length : Int) ≤ k) := by omega
  have h8I : (k : Int) < 256 := by omega
  rw [hA] at q1
  obtain ⟨m, hm⟩ : ∃ m, x.tabs.length = m := ⟨_, rfl⟩
  rw [hm] at q1 hkI hkD
  clear h hx hA hi hm hk
  go_enter Try.func120, Try.ntmps120
  go_wp2_with fail
  refine L.out.mono ?_
  rintro e w' ⟨rfl, rfl⟩
  go_wp2_with fail
  go_ret
  exact ⟨rfl, rfl⟩
end
/-- Whether a list runs. -/
def Lc.runs (x : Lc) : Bool := x.on
theorem runs1_any (x : Lc) (w : World) : Calls Try.prog 101 #[.agg #[.int .i64 x.first, .slice x.A x.tabs.length x.c, .bool x.stim, .int .u8 x.ev, .int .u8 x.pre, .int .u8 x.pri, .bool x.on, .bool x.ch]] w fun e w' => e = .returned (.bool x.runs) ∧ Below w.heap.size w w' := by
  have hb := bl1 w (.cells x.cs.toArray 71)
  go_enter Try.func101, Try.ntmps101
  go_wp2_with fail
  go_ret
  exact ⟨rfl, hb⟩
/-- Whether an entry is none yet. -/
def En.none_ (x : En) : Bool := x.size == 0
theorem ready1_any (x : En) (w : World) : Calls Try.prog 129 #[.agg #[.int .u8 x.size, .int .u8 x.area, .int .u32 x.pl]] w fun e w' => e = .returned (.bool x.none_) ∧ Below w.heap.size w w' := by
  have hb := bl1 w (.cells x.cs.toArray 76)
  go_enter Try.func129, Try.ntmps129
  go_wp2_with fail
  go_ret
  exact ⟨rfl, hb⟩
def anyL (l : List Lc) : Bool := l.any fun x => Lc.runs x
def IdxLP (w : World) (l : List Lc) (e : Ending) (w' : World) : Prop := ∃ i : Int, e = .returned (.int .i64 i) ∧ decide (0 ≤ i) = anyL l ∧ Below w.heap.size w w'
theorem anyL_at (l : List Lc) (k : Nat) (t : Lc) (h : l[k]? = some t) (hb : Lc.runs t = true) : anyL l = true := by
  unfold anyL
  rw [List.any_eq_true]
  exact ⟨t, List.mem_of_getElem? h, hb⟩
theorem anyL_no (l : List Lc) (h : ∀ (k : Nat) (t : Lc), l[k]? = some t → Lc.runs t = false) : anyL l = false := by
  unfold anyL
  rw [List.any_eq_false]
  intro x hx
  obtain ⟨k, hk⟩ := List.mem_iff_getElem?.1 hx
  rw [h k x hk]
  simp
theorem indexL_any (A : Option Addr) (n c : Nat) (l : List Lc) (w : World) (hx : l.length = n) (hl : n ≤ 1000000) (hr : Rd w w.heap.size A (flatC Lc.cs l)) :
    Calls Try.prog 122 #[.slice A n c, .func (.func 101) #[] #[]] w (IdxLP w l) := by
  have HX := Lib.hid hx
  clear hx
  go_enter Try.func122, Try.ntmps122
  go_wp2
  go_loopw [8] (fun i wr => ∃ k : Nat, k ≤ n ∧ i = .int .i64 k ∧ (∀ (j : Nat) (t : Lc), j < k → l[j]? = some t → Lc.runs t = false) ∧ Below w.heap.size w wr) (fun i _ => n - (intOf i).toNat)
  case atStart => exact ⟨0, Nat.zero_le _, rfl, fun j t h => by omega, Below.refl _ _⟩
  case round =>
    obtain ⟨k, hk, rfl, hno, hb⟩ := hrel
    have HNo := Lib.hid hno
    clear hno
    by_cases hlt : k < n
    · have hlt' : (k : Int) < n := by omega
      obtain ⟨t, ht⟩ : ∃ t, l[k]? = some t := ⟨_, List.getElem?_eq_getElem (by rw [HX.out]; exact hlt)⟩
      obtain ⟨b, o, rfl, -, hc⟩ := hr.below hb (by intro h; have h2 := flatC_len Lc.cs 8 l (fun _ _ => rfl); rw [h, HX.out] at h2; simp at h2; omega)
      have q0 := hc _ _ (flatC_at Lc.cs 8 l (fun _ _ => rfl) k t ht 0 _ rfl)
      have q1 := hc _ _ (flatC_at Lc.cs 8 l (fun _ _ => rfl) k t ht 1 _ rfl)
      have q2 := hc _ _ (flatC_at Lc.cs 8 l (fun _ _ => rfl) k t ht 2 _ rfl)
      have q3 := hc _ _ (flatC_at Lc.cs 8 l (fun _ _ => rfl) k t ht 3 _ rfl)
      have q4 := hc _ _ (flatC_at Lc.cs 8 l (fun _ _ => rfl) k t ht 4 _ rfl)
      have q5 := hc _ _ (flatC_at Lc.cs 8 l (fun _ _ => rfl) k t ht 5 _ rfl)
      have q6 := hc _ _ (flatC_at Lc.cs 8 l (fun _ _ => rfl) k t ht 6 _ rfl)
      have q7 := hc _ _ (flatC_at Lc.cs 8 l (fun _ _ => rfl) k t ht 7 _ rfl)
      rw [← Nat.add_assoc] at q1 q2 q3 q4 q5 q6 q7
      rw [Nat.add_zero] at q0
      have HT := Lib.hid ht
      have hz := hb.size
      have TK := Lib.hid (runs1_any t wr)
      clear ht hc
      obtain ⟨pt, hlet⟩ : ∃ pt, Lc.runs t = pt := ⟨_, rfl⟩
      rw [hlet] at TK
      have HLE := Lib.hid hlet
      clear hlet
      cases pt
      · go_wp2_with (go_at_call 101; refine TK.out.mono ?_; rintro e w1 ⟨rfl, hb1⟩)
        go_roundw
        case rel =>
          refine ⟨k + 1, by omega, by go_num, fun j t' hj h => ?_, hb.trans (hb1.mono hz)⟩
          rcases Nat.lt_or_ge j k with h' | h'
          · exact HNo.out j t' h' h
          · obtain rfl : j = k := by omega
            rw [HT.out] at h
            injection h with h
            subst h
            exact HLE.out
        case measure => simp [intOf]; omega
      · go_wp2_with (go_at_call 101; refine TK.out.mono ?_; rintro e w1 ⟨rfl, hb1⟩)
        go_ret
        exact ⟨k, rfl, by rw [anyL_at l k t HT.out HLE.out]; simp, hb.trans (hb1.mono hz)⟩
    · obtain rfl : k = n := by omega
      go_wp2
      go_ret
      refine ⟨-1, rfl, ?_, hb⟩
      rw [anyL_no l fun j t h => HNo.out j t (by rw [← HX.out]; exact (List.getElem?_eq_some_iff.1 h).1) h]
      rfl
theorem containsL_any (A : Option Addr) (n c : Nat) (l : List Lc) (w : World) (hx : l.length = n) (hl : n ≤ 1000000) (hr : Rd w w.heap.size A (flatC Lc.cs l)) :
    Calls Try.prog 100 #[.slice A n c, .func (.func 101) #[] #[]] w fun e w' => e = .returned (.bool (anyL l)) ∧ Below w.heap.size w w' := by
  have C := Lib.hid (indexL_any A n c l w hx hl hr)
  go_enter Try.func100, Try.ntmps100
  go_wp2_with fail
  refine C.out.mono ?_
  rintro e w' ⟨i, rfl, hi, hb⟩
  have Hi := Lib.hid hi
  clear hi
  go_wp2_with fail
  go_ret
  exact ⟨ret_bool Hi.out, hb⟩
def anyE (l : List En) : Bool := l.any fun x => En.none_ x
def IdxEP (w : World) (l : List En) (e : Ending) (w' : World) : Prop := ∃ i : Int, e = .returned (.int .i64 i) ∧ decide (0 ≤ i) = anyE l ∧ Below w.heap.size w w'
theorem anyE_at (l : List En) (k : Nat) (t : En) (h : l[k]? = some t) (hb : En.none_ t = true) : anyE l = true := by
  unfold anyE
  rw [List.any_eq_true]
  exact ⟨t, List.mem_of_getElem? h, hb⟩
theorem anyE_no (l : List En) (h : ∀ (k : Nat) (t : En), l[k]? = some t → En.none_ t = false) : anyE l = false := by
  unfold anyE
  rw [List.any_eq_false]
  intro x hx
  obtain ⟨k, hk⟩ := List.mem_iff_getElem?.1 hx
  rw [h k x hk]
  simp
theorem indexE_any (A : Option Addr) (n c : Nat) (l : List En) (w : World) (hx : l.length = n) (hl : n ≤ 1000000) (hr : Rd w w.heap.size A (flatC En.cs l)) :
    Calls Try.prog 136 #[.slice A n c, .func (.func 129) #[] #[]] w (IdxEP w l) := by
  have HX := Lib.hid hx
  clear hx
  go_enter Try.func136, Try.ntmps136
  go_wp2
  go_loopw [8] (fun i wr => ∃ k : Nat, k ≤ n ∧ i = .int .i64 k ∧ (∀ (j : Nat) (t : En), j < k → l[j]? = some t → En.none_ t = false) ∧ Below w.heap.size w wr) (fun i _ => n - (intOf i).toNat)
  case atStart => exact ⟨0, Nat.zero_le _, rfl, fun j t h => by omega, Below.refl _ _⟩
  case round =>
    obtain ⟨k, hk, rfl, hno, hb⟩ := hrel
    have HNo := Lib.hid hno
    clear hno
    by_cases hlt : k < n
    · have hlt' : (k : Int) < n := by omega
      obtain ⟨t, ht⟩ : ∃ t, l[k]? = some t := ⟨_, List.getElem?_eq_getElem (by rw [HX.out]; exact hlt)⟩
      obtain ⟨b, o, rfl, -, hc⟩ := hr.below hb (by intro h; have h2 := flatC_len En.cs 3 l (fun _ _ => rfl); rw [h, HX.out] at h2; simp at h2; omega)
      have q0 := hc _ _ (flatC_at En.cs 3 l (fun _ _ => rfl) k t ht 0 _ rfl)
      have q1 := hc _ _ (flatC_at En.cs 3 l (fun _ _ => rfl) k t ht 1 _ rfl)
      have q2 := hc _ _ (flatC_at En.cs 3 l (fun _ _ => rfl) k t ht 2 _ rfl)
      rw [← Nat.add_assoc] at q1 q2
      rw [Nat.add_zero] at q0
      have HT := Lib.hid ht
      have hz := hb.size
      have TK := Lib.hid (ready1_any t wr)
      clear ht hc
      obtain ⟨pt, hlet⟩ : ∃ pt, En.none_ t = pt := ⟨_, rfl⟩
      rw [hlet] at TK
      have HLE := Lib.hid hlet
      clear hlet
      cases pt
      · go_wp2_with (go_at_call 129; refine TK.out.mono ?_; rintro e w1 ⟨rfl, hb1⟩)
        go_roundw
        case rel =>
          refine ⟨k + 1, by omega, by go_num, fun j t' hj h => ?_, hb.trans (hb1.mono hz)⟩
          rcases Nat.lt_or_ge j k with h' | h'
          · exact HNo.out j t' h' h
          · obtain rfl : j = k := by omega
            rw [HT.out] at h
            injection h with h
            subst h
            exact HLE.out
        case measure => simp [intOf]; omega
      · go_wp2_with (go_at_call 129; refine TK.out.mono ?_; rintro e w1 ⟨rfl, hb1⟩)
        go_ret
        exact ⟨k, rfl, by rw [anyE_at l k t HT.out HLE.out]; simp, hb.trans (hb1.mono hz)⟩
    · obtain rfl : k = n := by omega
      go_wp2
      go_ret
      refine ⟨-1, rfl, ?_, hb⟩
      rw [anyE_no l fun j t h => HNo.out j t (by rw [← HX.out]; exact (List.getElem?_eq_some_iff.1 h).1) h]
      rfl
theorem containsE_any (A : Option Addr) (n c : Nat) (l : List En) (w : World) (hx : l.length = n) (hl : n ≤ 1000000) (hr : Rd w w.heap.size A (flatC En.cs l)) :
    Calls Try.prog 128 #[.slice A n c, .func (.func 129) #[] #[]] w fun e w' => e = .returned (.bool (anyE l)) ∧ Below w.heap.size w w' := by
  have C := Lib.hid (indexE_any A n c l w hx hl hr)
  go_enter Try.func128, Try.ntmps128
  go_wp2_with fail
  refine C.out.mono ?_
  rintro e w' ⟨i, rfl, hi, hb⟩
  have Hi := Lib.hid hi
  clear hi
  go_wp2_with fail
  go_ret
  exact ⟨ret_bool Hi.out, hb⟩
def runsX (l : List Ls) : Bool := l.any fun x => x.on
theorem anyL_abs (cl : List Lc) : anyL cl = runsX (abs cl) := by
  unfold anyL runsX abs
  rw [List.any_map]
  rfl
theorem runs_nil (w : World) : Calls Try.prog 68 #[.pointer none] w fun e w' => e = .returned (.bool false) ∧ Below w.heap.size w w' := by
  go_enter Try.func68, Try.ntmps68
  go_wp2_with fail
  go_ret
  exact ⟨rfl, Below.refl _ _⟩
theorem runs_any {Φ : Who} {B q : Nat} {w : World} {a : Dq} (h : DX Φ B w q a) : Calls Try.prog 68 #[.pointer (some ⟨q, 0, none⟩)] w fun e w' => e = .returned (.bool (runsX a.ls)) ∧ Below w.heap.size w w' := by
  obtain ⟨hok, A0, c0, cl, P, hab, hX⟩ := h
  have hn := hok.n4
  rw [← hab, abs_len] at hn
  have C := containsL_any A0 cl.length c0 cl w rfl (by omega) hX.row.1.rd
  rw [anyL_abs, hab] at C
  have C := Lib.hid C
  have hc := hX.cells
  clear hX hok hab
  go_enter Try.func68, Try.ntmps68
  go_wp2_with fail
  refine C.out.mono ?_
  rintro e w' ⟨rfl, hb⟩
  go_wp2_with fail
  go_ret
  exact ⟨rfl, hb⟩
def readyX (x : Ls) : Bool := (x.tabs.all fun t => !t.isEmpty && t.all fun e => !(e.size == 0)) && !x.tabs.isEmpty
theorem anyE_abs (es : List En) : anyE es = !(es.all fun e => !(e.size == 0)) := by
  unfold anyE
  rw [← List.any_eq_not_all_not]
  rfl
set_option maxHeartbeats 2000000 in
theorem ready_any (x : Lc) (w : World) (hl : x.tabs.length ≤ 16) (h7 : ∀ t ∈ x.tabs, t.es.length ≤ 7) (hr : Rd w w.heap.size x.A (tcells x.tabs)) (he : ∀ (k : Nat) (t : Tb), x.tabs[k]? = some t → Rd w w.heap.size t.A (ecells t.es)) :
    Calls Try.prog 121 #[.agg #[.int .i64 x.first, .slice x.A x.tabs.length x.c, .bool x.stim, .int .u8 x.ev, .int .u8 x.pre, .int .u8 x.pri, .bool x.on, .bool x.ch]] w fun e w' => e = .returned (.bool (readyX x.ab)) ∧ Below w.heap.size w w' := by
  have HF : Hid (∀ w' b, b = readyX x.ab → Below w.heap.size w w' → Ending.returned (.bool b) = .returned (.bool (readyX x.ab)) ∧ Below w.heap.size w w') := Lib.hid fun w' b h1 h2 => ⟨by rw [h1], h2⟩
  have HYES : Hid ((∀ (k : Nat) (t : Tb), x.tabs[k]? = some t → (!t.es.isEmpty && t.es.all fun e => !(e.size == 0)) = true) → decide (0 < x.tabs.length) = readyX x.ab) := Lib.hid fun h => by
    have h1 : (x.tabs.all fun t => !t.es.isEmpty && t.es.all fun e => !(e.size == 0)) = true := by
      rw [List.all_eq_true]
      intro t ht
      obtain ⟨k, hk⟩ := List.mem_iff_getElem?.1 ht
      exact h k t hk
    have h2 : readyX x.ab = ((x.tabs.all fun t => !t.es.isEmpty && t.es.all fun e => !(e.size == 0)) && !x.tabs.isEmpty) := by
      unfold readyX Lc.ab
      simp only [List.all_map, List.isEmpty_map]
      rfl
    rw [h2, h1, Bool.true_and]
    cases x.tabs with
    | nil => rfl
    | cons t l => simp
  have HNO : Hid (∀ (k : Nat) (t : Tb), x.tabs[k]? = some t → (!t.es.isEmpty && t.es.all fun e => !(e.size == 0)) = false → false = readyX x.ab) := Lib.hid fun k t h h2 => by
    unfold readyX Lc.ab
    rw [List.all_map, eq_comm, Bool.and_eq_false_iff]
    left
    rw [List.all_eq_false]
    exact ⟨t, List.mem_of_getElem? h, by rw [Function.comp_apply]; unfold Tb.ab; rw [h2]; simp⟩
  have H7 := Lib.hid h7
  have HE := Lib.hid he
  have hlI : (x.tabs.length : Int) ≤ 16 := by omega
  obtain ⟨n, hn⟩ : ∃ n, x.tabs.length = n := ⟨_, rfl⟩
  have HN := Lib.hid hn
  obtain ⟨A, hA⟩ : ∃ A, x.A = A := ⟨_, rfl⟩
  rw [hn] at hl hlI HYES ⊢
  rw [hA] at hr ⊢
  clear hn h7 he
  have hz0 := bl1 w (.cells #[.int .i64 x.first, .slice A n x.c, .bool x.stim, .int .u8 x.ev, .int .u8 x.pre, .int .u8 x.pri, .bool x.on, .bool x.ch] 71)
  go_enter Try.func121, Try.ntmps121
  go_upto_region 1 with fail
  refine wp_named fun W hW => ?_
  obtain ⟨BX, hbW⟩ := blk1 (c1 := #[.int .i64 x.first, .slice A n x.c, .bool x.stim, .int .u8 x.ev, .int .u8 x.pre, .int .u8 x.pri, .bool x.on, .bool x.ch]) hW
  have bx := BX.cell
  clear hW hz0
  go_wp2_with fail
  clear bx
  go_loopw [8] (fun iv wr => ∃ k : Nat, k ≤ n ∧ iv = .int .i64 k ∧ (∀ (j : Nat) (t : Tb), j < k → x.tabs[j]? = some t → (!t.es.isEmpty && t.es.all fun e => !(e.size == 0)) = true) ∧ Below W.heap.size W wr) (fun iv _ => n - (intOf iv).toNat)
  case atStart => exact ⟨0, Nat.zero_le _, rfl, fun j t h => by omega, Below.refl _ _⟩
  case round =>
    obtain ⟨k, hk, rfl, hyes, hb⟩ := hrel
    have hbw := hbW.trans (hb.mono hbW.size)
    have HY := Lib.hid hyes
    clear hyes
    by_cases hlt : k < n
    · have hlt' : (k : Int) < n := by omega
      obtain ⟨t, ht⟩ : ∃ t, x.tabs[k]? = some t := ⟨_, List.getElem?_eq_getElem (by rw [HN.out]; exact hlt)⟩
      obtain ⟨b, o, rfl, -, hc⟩ := hr.below hbw (by intro h; have h2 := tcells_len x.tabs; rw [h, HN.out] at h2; simp at h2; omega)
      have q0 := hc _ _ (tcells_at ht)
      have ht7 := H7.out t (List.mem_of_getElem? ht)
      have CE := containsE_any t.A t.es.length t.c t.es wr rfl (by omega) ((HE.out k t ht).bel hbw)
      rw [anyE_abs] at CE
      have HT := Lib.hid ht
      obtain ⟨m, hm⟩ : ∃ m, t.es.length = m := ⟨_, rfl⟩
      have HM : Hid (t.es.isEmpty = decide (m = 0)) := Lib.hid (by
        rw [← hm]
        cases t.es with
        | nil => rfl
        | cons a l => simp)
      rw [hm] at CE q0 ht7
      obtain ⟨p, hp⟩ : ∃ p, (t.es.all fun e => !(e.size == 0)) = p := ⟨_, rfl⟩
      rw [hp] at CE
      have HP := Lib.hid hp
      have CE := Lib.hid CE
      clear ht hc hm hp
      by_cases h0 : m = 0
      · subst h0
        have FF := Lib.hid (HF.out wr false (HNO.out k t HT.out (by rw [HM.out]; rfl)) hbw)
        clear HNO HYES
        go_wp2_with fail
        go_ret
        exact FF.out
      · have h0I : ((m : Int) == 0) = false := beq_eq_false_iff_ne.2 (by omega)
        cases p with
        | true =>
          go_wp2_with fail
          refine CE.out.mono ?_
          rintro e w2 ⟨rfl, b2⟩
          go_wp2_with fail
          go_roundw
          case rel =>
            refine ⟨k + 1, by omega, by simp, fun j t' hj h => ?_, hb.trans (b2.mono hb.size)⟩
            rcases Nat.lt_or_ge j k with h' | h'
            · exact HY.out j t' h' h
            · obtain rfl : j = k := by omega
              rw [HT.out] at h
              injection h with h
              subst h
              rw [HM.out, HP.out, decide_eq_false h0]
              rfl
          case measure => simp [intOf]; omega
        | false =>
          have FF := Lib.hid (fun w2 (b2 : Below wr.heap.size wr w2) => HF.out w2 false (HNO.out k t HT.out (by rw [HP.out]; simp)) (hbw.trans (b2.mono hbw.size)))
          clear HNO HYES
          go_wp2_with fail
          refine CE.out.mono ?_
          rintro e w2 ⟨rfl, b2⟩
          go_wp2_with fail
          go_ret
          exact FF.out _ b2
    · obtain rfl : k = n := by omega
      have bx := (BX.below hb).cell
      have FF := Lib.hid (HF.out wr _ (HYES.out fun j t h => HY.out j t (by rw [← HN.out]; exact (List.getElem?_eq_some_iff.1 h).1) h) hbw)
      clear HNO HYES
      go_wp2_with fail
      go_ret
      exact FF.out
end Go.Proofs.Yteecgdbicokgoaa
