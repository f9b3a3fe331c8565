/- few: the first acts, of few packets of few bytes. -/
import Derived.Test.YtchneedpgpocnaaQ6
namespace Go.Proofs.Ytchneedpgpocnaa
open Go.RowKit
set_option linter.unusedVariables false
set_option linter.unusedSimpArgs false
theorem info48 : (Try.prog.info? 48).map (fun i => (i.zero, i.size, i.bytes)) = some (some (.agg #[.int .u8 0, .int .i64 0, .slice none 0 0]), 3, 40) := by kernel_rfl
structure Ac where
  kind : Int
  list : Int
  A : Option Addr
  n : Nat
  c : Nat
  its : List It
def cellsA : List Ac → List Value
  | [] => []
  | a :: l => .int .u8 a.kind :: .int .i64 a.list :: .slice a.A a.n a.c :: cellsA l
theorem cellsA_len : ∀ l : List Ac, (cellsA l).length = l.length * 3
  | [] => rfl
  | t :: l => by simp only [cellsA, List.length_cons, cellsA_len l]; omega
theorem cellsA_app : ∀ l m : List Ac, cellsA (l ++ m) = cellsA l ++ cellsA m
  | [], m => rfl
  | t :: l, m => by simp [cellsA, cellsA_app l m]
theorem cellsA_drop : ∀ (l : List Ac) (k : Nat), (cellsA l).drop (k * 3) = cellsA (l.drop k)
  | l, 0 => by simp
  | [], k + 1 => by simp [cellsA]
  | t :: l, k + 1 => by
    rw [show (k + 1) * 3 = k * 3 + 1 + 1 + 1 by omega]
    simp only [cellsA, List.drop_succ_cons]
    exact cellsA_drop l k
theorem cellsA_get (l : List Ac) (k : Nat) (t : Ac) (h : l[k]? = some t) : (cellsA l)[k * 3]? = some (.int .u8 t.kind) ∧ (cellsA l)[k * 3 + 1]? = some (.int .i64 t.list) ∧ (cellsA l)[k * 3 + 2]? = some (.slice t.A t.n t.c) := by
  have hd := cellsA_drop l k
  obtain ⟨m, hm⟩ : ∃ m, l.drop k = t :: m := by
    obtain ⟨hk, e⟩ := List.getElem?_eq_some_iff.1 h
    exact ⟨l.drop (k + 1), by rw [List.drop_eq_getElem_cons hk, e]⟩
  rw [hm] at hd
  have g : ∀ j, (cellsA l)[k * 3 + j]? = (cellsA (t :: m))[j]? := fun j => by rw [← hd, List.getElem?_drop]
  exact ⟨(g 0).trans rfl, (g 1).trans rfl, (g 2).trans rfl⟩
theorem three_oneA (x y : Int) (A : Option Addr) (n c : Nat) : ∀ u ∈ [Value.int .u8 x, .int .i64 y, .slice A n c], u.oneCell' = true := by
  intro u hu
  simp only [List.mem_cons, List.not_mem_nil, or_false] at hu
  rcases hu with rfl | rfl | rfl <;> rfl
theorem rdnew2 (w : World) (o : Obj) (vs : List Value) (t : TypeId) : Rd ((w.alloc o).alloc (.cells vs.toArray t)) (w.heap.size + 1 + 1) (some ⟨w.heap.size + 1, 0, none⟩) vs := by
  have := Rd.new (w.alloc o) vs t
  simpa only [World.size_alloc] using this
/-- A packet of an argument. -/
def PkIn (w : World) (B : Nat) (t : It) : Prop := 0 ≤ t.kind ∧ t.kind < 256 ∧ 0 ≤ t.code ∧ t.code < 256 ∧ t.b.length = t.n ∧ t.n ≤ t.c ∧ t.c ≤ maxLen ∧ (t.A = none → t.n = 0 ∧ t.c = 0) ∧ Rd w B t.A (u8s t.b)
/-- An act of an argument. -/
def AcIn (w : World) (B : Nat) (a : Ac) : Prop := 0 ≤ a.kind ∧ a.kind < 256 ∧ -9223372036854775808 ≤ a.list ∧ a.list ≤ 9223372036854775807 ∧ a.its.length = a.n ∧ a.n ≤ maxLen ∧ Rd w w.heap.size a.A (cellsL a.its) ∧ ∀ t ∈ a.its, PkIn w B t
/-- An act of the call's own, of few packets of few bytes, which lie below B. -/
def AcFew (w : World) (base B : Nat) (a : Ac) : Prop := 0 ≤ a.kind ∧ a.kind < 256 ∧ -9223372036854775808 ≤ a.list ∧ a.list ≤ 9223372036854775807 ∧ a.its.length = a.n ∧ a.n ≤ 6 ∧ Own w base 31 3 a.A a.n a.c (cellsL a.its) ∧ ∀ t ∈ a.its, PkIn w B t ∧ t.n ≤ 10
theorem PkIn.keep {w w' : World} {B : Nat} {t : It} (h : PkIn w B t) (hk : ∀ p : Addr, p.block < B → w'.cell? p = w.cell? p) : PkIn w' B t := by
  obtain ⟨h1, h2, h3, h4, h5, h6, h7, h8, h9⟩ := h
  exact ⟨h1, h2, h3, h4, h5, h6, h7, h8, h9.keep hk⟩
theorem AcFew.below {w w' : World} {base B : Nat} {a : Ac} (h : AcFew w base B a) (hb : Below w.heap.size w w') (hB : B ≤ w.heap.size) : AcFew w' base B a := by
  obtain ⟨h1, h2, h3, h4, h5, h6, h7, h8⟩ := h
  exact ⟨h1, h2, h3, h4, h5, h6, h7.below hb, fun t ht => ⟨(h8 t ht).1.keep fun p hp => hb.cell (by omega), (h8 t ht).2⟩⟩
theorem AcFew.chg {F : Nat → Prop} {w w' : World} {base B : Nat} {a : Ac} (h : AcFew w base B a) (hc : Chg F w w') (hF : ∀ g, blkOf a.A = some g → ¬ F g) (hB : B ≤ w.heap.size) (hFB : ∀ g, g < B → ¬ F g) : AcFew w' base B a := by
  obtain ⟨h1, h2, h3, h4, h5, h6, h7, h8⟩ := h
  exact ⟨h1, h2, h3, h4, h5, h6, h7.chg hc hF, fun t ht => ⟨(h8 t ht).1.keep fun p hp => World.cell?_of_block (hc.block p.block (by omega) (hFB _ hp)), (h8 t ht).2⟩⟩
theorem AcFew.grown {w w' : World} {base B : Nat} {a : Ac} (h : AcFew w base B a) {row : Option Nat} (hg : w.grownBy w' row) (hr : blkOf a.A = none ∨ blkOf a.A ≠ row) (hB : B ≤ w.heap.size) (hrow : ∀ g, row = some g → B ≤ g) : AcFew w' base B a := by
  obtain ⟨h1, h2, h3, h4, h5, h6, h7, h8⟩ := h
  refine ⟨h1, h2, h3, h4, h5, h6, h7.grown hg hr, fun t ht => ⟨(h8 t ht).1.keep fun p hp => World.cell?_of_block (hg.block p.block (by omega) (fun e => by have := hrow p.block e.symm; omega)), (h8 t ht).2⟩⟩
def FewP (w : World) (B0 : Nat) (e : Ending) (w' : World) : Prop := ∃ A c outs, e = .returned (.slice A outs.length c) ∧ outs.length ≤ 60 ∧ Own w' w.heap.size 48 3 A outs.length c (cellsA outs) ∧ (∀ o ∈ outs, AcFew w' w.heap.size B0 o) ∧ Below w.heap.size w w'
set_option maxHeartbeats 4000000 in
theorem few_any (A : Option Addr) (n c : Nat) (l : List Ac) (w : World) (B0 : Nat) (hB0 : B0 ≤ w.heap.size) (hx : l.length = n) (hl : n ≤ maxLen) (hr : Rd w w.heap.size A (cellsA l)) (hin : ∀ a ∈ l, AcIn w B0 a) : Calls Try.prog 15 #[.slice A n c] w (FewP w B0) := by
  unfold maxLen at hl
  have HX := Lib.hid hx
  clear hx
  go_enter Try.func15, Try.ntmps15
  go_wp2
  go_loopw [3, 11] (fun v i wr => ∃ (k : Nat) (B : Option Addr) (d : Nat) (outs : List Ac), k ≤ n ∧ k ≤ 60 ∧ i = .int .i64 k ∧ v = .slice B k d ∧ outs.length = k ∧ Own wr w.heap.size 48 3 B k d (cellsA outs) ∧ (∀ o ∈ outs, AcFew wr w.heap.size B0 o) ∧ Below w.heap.size w wr) (fun _ i _ => n - (intOf i).toNat)
  case atStart => exact ⟨0, none, 0, [], Nat.zero_le _, Nat.zero_le _, rfl, rfl, rfl, Own.nil _ _ _ _, fun o h => (by cases h), Below.refl _ _⟩
  case round =>
    obtain ⟨k, B, d, outs, hk, hk60, rfl, rfl, hol, ho, hof, hb⟩ := hrel
    have hz := hb.size
    have HOL := Lib.hid hol
    have HOF := Lib.hid hof
    clear hol hof
    by_cases hlt : k < n
    · have hlt' : (k : Int) < n := by omega
      obtain ⟨⟨ak, al, aA, an, acc, aits⟩, ha⟩ : ∃ a, l[k]? = some a := ⟨_, List.getElem?_eq_getElem (by rw [HX.out]; exact hlt)⟩
      obtain ⟨a1, a2, a3, a4, a5, a6, a7, a8⟩ := hin _ (List.mem_of_getElem? ha)
      dsimp only at a1 a2 a3 a4 a5 a6 a7 a8
      have a6' : an ≤ 9223372036854775807 := a6
      obtain ⟨b, o, rfl, -, hc⟩ := hr.below hb (by intro h; have h2 := cellsA_len l; rw [h, HX.out] at h2; simp at h2; omega)
      obtain ⟨g0, g1, g2⟩ := cellsA_get l k _ ha
      dsimp only at g0 g1 g2
      have q0 := hc _ _ g0
      have q1 := hc _ _ g1
      have q2 := hc _ _ g2
      rw [← Nat.add_assoc] at q1 q2
      clear hc g0 g1 g2
      by_cases h60 : k < 60
      · have h60' : (k : Int) < 60 := by omega
        go_wp2_with fail
        refine wp_named fun W1 hW => ?_
        obtain ⟨B48, hbW⟩ := blk1 hW
        clear hW
        have hzW := hbW.size
        go_loopw [6, 21] (fun v i wx => ∃ (j m : Nat) (X : Option Addr) (e : Nat) (its : List It), j ≤ an ∧ m = min j 6 ∧ i = .int .i64 j ∧ v = .slice X m e ∧ its.length = m ∧ Own wx W1.heap.size 31 3 X m e (cellsL its) ∧ (∀ t ∈ its, PkIn wx B0 t ∧ t.n ≤ 10) ∧ Below W1.heap.size W1 wx) (fun _ i _ => an - (intOf i).toNat)
        case atStart => exact ⟨0, 0, none, 0, [], Nat.zero_le _, rfl, rfl, rfl, rfl, Own.nil _ _ _ _, fun t h => (by cases h), Below.refl _ _⟩
        case round =>
          rename World => wx
          obtain ⟨j, m, X, e, its, hj, hm, rfl, rfl, hil, hoX, hitX, hbx⟩ := hrel
          have HM := Lib.hid hm
          have HIL := Lib.hid hil
          have HIT := Lib.hid hitX
          have hm6 : m ≤ 6 := by omega
          clear hm hil hitX
          have hwx : Below w.heap.size w wx := hb.trans ((hbW.mono hz).trans (hbx.mono (Nat.le_trans hz hzW)))
          have hzx := hwx.size
          have hzx1 := hbx.size
          by_cases hja : j < an
          · have hja' : (j : Int) < an := by omega
            obtain ⟨t, ht⟩ : ∃ t, aits[j]? = some t := ⟨_, List.getElem?_eq_getElem (by rw [a5]; exact hja)⟩
            have hpk := a8 t (List.mem_of_getElem? ht)
            obtain ⟨b', o', ea, -, hc⟩ := a7.below hwx (by intro h; have h2 := cellsL_len aits; rw [h, a5] at h2; simp at h2; omega)
            obtain ⟨g0, g1, g2⟩ := cellsL_get aits j t ht
            have r0 := hc _ _ g0
            have r1 := hc _ _ g1
            have r2 := hc _ _ g2
            rw [← Nat.add_assoc] at r1 r2
            clear hc g0 g1 g2 ht
            have hpx := hpk.keep (w' := wx) fun p hp => hwx.cell (by omega)
            by_cases hj6 : j < 6
            · have hj6' : (j : Int) < 6 := by omega
              obtain ⟨p1, p2, p3, p4, p5, p6, p7, p8, p9⟩ := hpx
              obtain ⟨M, hM⟩ : ∃ M, min t.n 10 = M := ⟨_, rfl⟩
              have hit2 : PkIn wx B0 ⟨t.kind, t.code, t.A, M, t.c, t.b.take M⟩ ∧ M ≤ 10 := by
                refine ⟨⟨p1, p2, p3, p4, by simp only [List.length_take]; omega, by dsimp only; omega, p7, fun h => ⟨by have := p8 h; dsimp only; omega, (p8 h).2⟩, ?_⟩, by omega⟩
                have := p9.take M
                rwa [← List.map_take] at this
              obtain ⟨T, hT⟩ : ∃ T : It, T = ⟨t.kind, t.code, t.A, M, t.c, t.b.take M⟩ := ⟨_, rfl⟩
              have hit2 : PkIn wx B0 T ∧ T.n ≤ 10 := by rw [hT]; exact hit2
              have HI2 := Lib.hid hit2
              have HT := Lib.hid hT
              have hmj := HM.out
              have e1 : min (j + 1) 6 = m + 1 := by omega
              have HE1 := Lib.hid e1
              have hX2 := fun o1 o2 => (hoX.alloc o1).alloc o2
              have hcap2 : t.c ≤ 9223372036854775807 := p7
              have hn2 : (t.n : Int) ≤ t.c := by omega
              clear hmj e1 hit2 p1 p2 p3 p4 p5 p9 hT hpk
              obtain ⟨tk, tc, tA, tn, tcc, tb⟩ := t
              dsimp only at *
              have hcs : (tA = none ∧ tn = 0 ∧ tcc = 0 ∧ M = 0) ∨ (∃ ad, tA = some ad) ∧ tn ≤ 10 ∧ M = tn ∨ (∃ ad, tA = some ad) ∧ 10 < tn ∧ M = 10 := by
                cases tA with
                | none => have := p8 rfl; exact .inl ⟨rfl, this.1, this.2, by omega⟩
                | some ad => rcases Nat.lt_or_ge 10 tn with h | h
                             · exact .inr (.inr ⟨⟨ad, rfl⟩, h, by omega⟩)
                             · exact .inr (.inl ⟨⟨ad, rfl⟩, h, by omega⟩)
              clear p8 hM
              rcases hcs with ⟨rfl, rfl, rfl, rfl⟩ | ⟨⟨ad, rfl⟩, h10, rfl⟩ | ⟨⟨ad, rfl⟩, h10, rfl⟩
              case' inr.inl =>
                have e2 : min (M : Int) 10 = (M : Int) := by omega
                have h10' : (M : Int) ≤ 10 := by omega
              case' inr.inr =>
                have e2 : min (tn : Int) 10 = 10 := by omega
                have e3 : max (10 : Int) 0 = 10 := by omega
                have h10' : (10 : Int) ≤ tn := by omega
              all_goals
                cases ea
                go_wp2_with (at_builtin; refine wpList_app _ rfl (.tmp 36) (.tmp 38) 28 rfl W1.heap.size 31 (.agg #[.int .u8 0, .int .u8 0, .slice none 0 0]) 3 32 Try.underlying28 info31 rfl (by decide) X m e _ rfl (hX2 _ _) _ _ 1 1 _ rfl rfl (rdnew2 _ _ [.int .u8 tk, .int .u8 tc, _] 31) (three_one _ _ _ _ _) (by unfold maxLen; omega) (by omega) (by simp; omega) ?_; intro X' e' w' ho3 hg hbk)
                go_roundw
                case rel =>
                  refine ⟨j + 1, m + 1, X', e', its ++ [T], by omega, HE1.out.symm, by go_num, rfl, by rw [List.length_append, HIL.out]; rfl, ?_, ?_, ?_⟩
                  · rw [cellsL_app, HT.out]; exact ho3
                  · intro u hu
                    have hnew : PkIn wx B0 u ∧ u.n ≤ 10 := by
                      rcases List.mem_append.1 hu with h | h
                      · exact HIT.out u h
                      · simp at h; subst h; exact HI2.out
                    refine ⟨hnew.1.keep fun p hp => ?_, hnew.2⟩
                    rw [World.cell?_of_block (hg.block p.block (by simp; omega) (fun e => by have := (hoX.lt e.symm).1; omega)), World.cell?_alloc_lt _ _ _ (by simp; omega), World.cell?_alloc_lt _ _ _ (by omega)]
                  · exact bel_app ((hbx.alloc hbx.size _).alloc (by have := hbx.size; simp; omega) _) (hX2 _ _) (Nat.le_refl _) hg
                case measure => simp [intOf]; omega
            · have hj6' : (6 : Int) ≤ j := by omega
              go_wp2_with fail
              go_roundw
              case rel =>
                have hmj := HM.out
                exact ⟨j + 1, m, X, e, its, by omega, by omega, by go_num, rfl, HIL.out, hoX.alloc _, fun u hu => ⟨(HIT.out u hu).1.keep fun p hp => World.cell?_alloc_lt _ _ _ (by omega), (HIT.out u hu).2⟩, hbx.alloc hbx.size _⟩
              case measure => simp [intOf]; omega
          · obtain rfl : j = an := by omega
            have B48x := B48.below hbx
            have bc := B48x.cell
            have bf := B48x.frozen
            have hbrx : Below wr.heap.size wr wx := hbW.trans (hbx.mono hzW)
            have hox := ho.below hbrx
            go_upto_region 15 with fail
            refine wp_named fun W2 hW2 => ?_
            have hc : Chg (fun g => g = wr.heap.size) wx W2 := by rw [hW2]; exact (Chg.refl (fun g => g = wr.heap.size) _).at_ (q := wr.heap.size) (Eq.refl _) _ _
            have B2 : Blk W2 wr.heap.size 48 #[.int .u8 ak, .int .i64 al, .slice X m e] := by rw [hW2]; exact B48x.set_ 2 _
            have hoX2 : Own W2 w.heap.size 31 3 X m e (cellsL its) := (hoX.chg hc (fun g hg e => hoX.ne_blk hg B48x (by decide) e)).more (Nat.le_trans hz hzW)
            have ho2 : Own W2 w.heap.size 48 3 B k d (cellsA outs) := hox.chg hc (fun g hg e => by have := (ho.lt hg).2; omega)
            have hof2 : ∀ o ∈ outs, AcFew W2 w.heap.size B0 o := fun o' ho' => ((HOF.out o' ho').below hbrx (by omega)).chg hc (fun g hg e => by have := ((HOF.out o' ho').2.2.2.2.2.2.1.lt hg).2; omega) (by omega) (fun g hg e => by omega)
            have hit2 : ∀ t ∈ its, PkIn W2 B0 t ∧ t.n ≤ 10 := fun u hu => ⟨(HIT.out u hu).1.keep fun p hp => World.cell?_of_block (hc.block p.block (by omega) (by omega)), (HIT.out u hu).2⟩
            have hb2 : Below w.heap.size w W2 := hwx.trans (hc.below (fun g _ e => by omega) hzx)
            have hz2 := hb2.size
            have HO2 := Lib.hid hof2
            have HI2 := Lib.hid hit2
            have b2 := B2.cell
            clear hW2 bc bf hc hof2 hit2 B48 B48x
            go_wp2_with (at_builtin; refine wpList_app _ rfl (.tmp 43) (.tmp 45) 42 rfl w.heap.size 48 (.agg #[.int .u8 0, .int .i64 0, .slice none 0 0]) 3 40 Try.underlying42 info48 rfl (by decide) B k d _ rfl (ho2.alloc _) _ _ 1 1 _ rfl rfl (Rd.new W2 [.int .u8 ak, .int .i64 al, .slice X m e] 48) (three_oneA _ _ _ _ _) (by unfold maxLen; omega) (by omega) (by simp; omega) ?_; intro B' d' w' ho3 hg hbk)
            go_roundw
            case rel =>
              refine ⟨k + 1, B', d', outs ++ [⟨ak, al, X, m, e, its⟩], by omega, by omega, by go_num, rfl, by rw [List.length_append, HOL.out]; rfl, ?_, ?_, ?_⟩
              · rw [cellsA_app]; exact ho3
              · intro o' ho'
                have hnew : AcFew (W2.alloc (.cells #[.int .u8 ak, .int .i64 al, .slice X m e] 48)) w.heap.size B0 o' := by
                  refine AcFew.below (w := W2) ?_ ((Below.refl _ _).alloc (Nat.le_refl _) _) (by omega)
                  rcases List.mem_append.1 ho' with h | h
                  · exact HO2.out o' h
                  · simp at h; subst h
                    exact ⟨a1, a2, a3, a4, HIL.out, hm6, hoX2, HI2.out⟩
                refine hnew.grown hg (own_own_ne hnew.2.2.2.2.2.2.1 (ho2.alloc _) (by decide)) (by simp; omega) (fun g hgg => by have := (ho2.lt hgg).1; omega)
              · exact bel_app (hb2.alloc hz2 _) (ho2.alloc _) (Nat.le_refl _) hg
            case measure => simp [intOf]; omega
      · have h60' : (60 : Int) ≤ k := by omega
        obtain rfl : k = 60 := by omega
        go_wp2_with fail
        go_ret
        have e60 := HOL.out
        refine ⟨B, d, outs, by rw [e60]; rfl, by omega, by rw [e60]; exact ho.alloc _, fun o' ho' => (HOF.out o' ho').below ((Below.refl _ _).alloc (Nat.le_refl _) _) (by omega), hb.alloc hz _⟩
    · obtain rfl : k = n := by omega
      go_wp2_with fail
      go_ret
      have e60 := HOL.out
      exact ⟨B, d, outs, by rw [e60]; rfl, by omega, by rw [e60]; exact ho, HOF.out, hb⟩
end Go.Proofs.Ytchneedpgpocnaa
