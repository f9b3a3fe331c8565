/- SymOwn: the walk. -/
import Derived.Test.YtmcmlglacblkiaaY18
import Derived.Test.YtmcmlglacblkiaaTyp
namespace Go.Proofs.Ytmcmlglacblkiaa
open Go.RowKit Go.Maps
set_option linter.unusedVariables false
set_option linter.unusedSimpArgs false
theorem MapAt.chg {w w' : World} {m : Nat} {l : List Sy} {F : Nat → Prop} (h : MapAt w m l) (hb : Chg F w w') (hf : ¬ F m) : MapAt w' m l := by
  obtain ⟨n, hn, ho⟩ := h
  refine ⟨n, hn, ?_⟩
  have hlt := ho.lt
  obtain ⟨es, clock, hm, F, hs, hD⟩ := ho
  exact ⟨es, clock, (hb.block m hlt hf).trans hm, F, hs, hD⟩
theorem MapAt.ne_own {w : World} {m : Nat} {l : List Sy} (h : MapAt w m l) {base n c size : Nat} {e : TypeId} {A : Option Addr} {xs : List Value} (ho : Own w base e size A n c xs) {g : Nat} (hg : blkOf A = some g) : g ≠ m := by
  intro he
  subst he
  obtain ⟨cs, hb⟩ := ho.row hg
  obtain ⟨n, hn, ho⟩ := h
  obtain ⟨es, clock, hm, F, hs, hD⟩ := ho
  unfold Blk at hb
  rw [hb] at hm
  cases hm
theorem TabAt.chg {w w' : World} {B t : Nat} {l : List Sy} (h : TabAt w B t l) {base n c size : Nat} {A : Option Addr} {xs : List Value} (ho : Own w base 24 size A n c xs) (hb : Chg (fun i => blkOf A = some i) w w') : TabAt w' B t l := by
  obtain ⟨m, h1, h2, h3⟩ := h
  exact ⟨m, h1.chg hb (fun hf => ho.ne_blk hf h1 (by decide) rfl), h2, h3.chg hb (fun hf => h3.ne_own ho hf rfl)⟩
theorem find_empty (l : List Sy) (h : ∀ s ∈ l, s.may = true) : findS l ⟨#[]⟩ = none := by
  refine find_none _ _ fun s hs => ?_
  have hm := ((may_iff s).1 (h s hs)).1.2.1
  cases he : (s.nm.toList == (⟨#[]⟩ : ByteArray).toList)
  · rfl
  · exfalso
    have h1 := eq_of_beq he
    have h2 : s.nm.toList.length = 0 := by rw [h1, ByteArray.toList_eq]; rfl
    have h3 : s.nm.toList.length = s.nm.size := by rw [ByteArray.toList_eq]; rfl
    omega
theorem zero24o (w : World) (hb : Nat) (h : hb ≤ w.heap.size) : Own (w.alloc (.cells #[] 24)) hb 24 8 (some ⟨w.heap.size, 0, none⟩) 0 0 [] := Own.made w h #[] 0 0 (Nat.le_refl _) (by decide) rfl
theorem drop_cellsS (xs : List Value) (l : List Sy) (k : Nat) (h : xs.drop (k * 8) = (cellsS l).drop (k * 8)) (s : Sy) (hs : l[k]? = some s) (i : Nat) (v : Value) (hv : s.cs[i]? = some v) : xs[k * 8 + i]? = some v := by
  have := cellsS_get l k s hs i v hv
  rw [← List.getElem?_drop, h, List.getElem?_drop]
  exact this
theorem drop_set2 (xs ys : List Value) (k : Nat) (h : xs.drop (k * 8) = ys.drop (k * 8)) (u v : Value) : ((xs.set (k * 8) u).set (k * 8 + 2) v).drop ((k + 1) * 8) = ys.drop ((k + 1) * 8) := by
  rw [List.drop_set_of_lt (by omega), List.drop_set_of_lt (by omega), show (k + 1) * 8 = k * 8 + 8 by omega, ← List.drop_drop, h, List.drop_drop]
theorem chg_row {W w : World} {g o : Nat} (h : Chg (fun i => blkOf (some ⟨g, o, none⟩) = some i) W w) (x y : Nat) (u v : Value) : Chg (fun i => blkOf (some ⟨g, o, none⟩) = some i) W ((w.setCell ⟨g, x, none⟩ u).setCell ⟨g, y, none⟩ v) := (h.at_ (q := g) rfl _ _).at_ (q := g) rfl _ _
set_option maxRecDepth 100000 in
set_option maxHeartbeats 8000000 in
theorem own_any (A : Option Addr) (n c : Nat) (l0 : List Sy) (w : World) (hx : l0.length = n) (hr : Rd w w.heap.size A (cellsS l0)) (hl : n ≤ maxLen) (hwf : ∀ s ∈ l0, s.wf) :
    Calls Try.prog 8 #[.slice A n c] w fun e w' => e = .returned (.bool true) ∧ Below w.heap.size w w' := by
  have hml : maxLen = 9223372036854775807 := by decide
  have FW := Lib.hid fun (W : World) (hW : Below w.heap.size w W) => few_any A n c l0 W hx ((hr.below hW).more hW.size) hl hwf
  obtain ⟨l, hll⟩ : ∃ l, fewS l0 = l := ⟨_, rfl⟩
  have hlw : ∀ s ∈ l, s.wf := by rw [← hll]; exact fewS_wf l0 hwf
  have hl70 : l.length ≤ 70 := by rw [← hll, fewS_len]; omega
  unfold FewP at FW
  rw [hll] at FW
  obtain ⟨m, hm⟩ : ∃ m, l.length = m := ⟨_, rfl⟩
  rw [hm] at FW hl70
  have NW := Lib.hid fun (W : World) (A' : Option Addr) (d : Nat) (ho : Own W w.heap.size 24 8 A' m d (cellsS l)) => new_any A' m d l W hm ho.rd (by rw [hml]; omega) hlw
  have FN := Lib.hid fun (W : World) => find_nil W ⟨#[97]⟩
  have EZ := Lib.hid (errN_zero l)
  have EV := errN_vals l
  obtain ⟨E, hE⟩ : ∃ E, errN l = E := ⟨_, rfl⟩
  unfold TNewP at NW
  rw [hE] at NW EZ EV
  have HM := Lib.hid hm
  have HLW := Lib.hid hlw
  clear hE hm hlw hll hx hr hwf hl
  go_enter Try.func8, Try.ntmps8
  go_wp2_with fail
  refine (shown18_any _).mono ?_
  rintro e w1 ⟨rfl, hb1⟩
  go_wp2_with fail
  refine (FW.out _ hb1).mono ?_
  rintro e w2 ⟨A2, m2, d2, rfl, hm2, ho2, hb2⟩
  obtain rfl : m2 = m := hm2
  have hb3 := hb1.trans (hb2.mono hb1.size)
  have ho2' := ho2.more hb1.size
  go_wp2_with fail
  refine (NW.out _ A2 d2 ho2').mono ?_
  rintro e w3 ⟨hr1, hr2, hb4⟩
  have hb5 := hb3.trans (hb4.mono hb3.size)
  have ho3 := ho2'.below hb4
  clear ho2 ho2'
  by_cases h0 : E = 0
  · subst h0
    obtain ⟨t, rfl, hT⟩ := hr1 rfl
    obtain ⟨hlt64, hmay, hd⟩ := EZ.out rfl
    rw [HM.out] at hlt64
    have hlt64I : (m2 : Int) ≤ 64 := by omega
    have HMAY := Lib.hid hmay
    clear hr1 hr2 EV hmay
    go_wp2_with fail
    refine (FN.out _).mono ?_
    rintro e w4 ⟨rfl, hb6⟩
    have hb7 := hb5.trans (hb6.mono hb5.size)
    have hz7 := hb7.size
    have ho4 := ho3.below hb6
    have hT4 := hT.below hb6
    unfold fndV
    have hb8 := hb7.alloc hz7 (.cells zeroS.cs 24)
    have ho5 := ho4.alloc (.cells zeroS.cs 24)
    have hT5 := hT4.below (bl1 _ (.cells zeroS.cs 24))
    go_upto_region 8 with fail
    refine wp_named fun W hW => ?_
    have hoW : Own W w.heap.size 24 8 A2 m2 d2 (cellsS l) := by rw [hW]; exact ho5
    have hTW : TabAt W w2.heap.size t l := by rw [hW]; exact hT5
    have hbW : Below w.heap.size w W := by rw [hW]; exact hb8
    have hzW := hbW.size
    clear hW ho3 ho4 ho5 hT hT4 hT5 hb8 hb7 hb6
    go_wp2_with (at_builtin; refine wpList_app _ rfl (.tmp 54) (.tmp 55) 26 rfl W.heap.size 24 (.agg #[.string ByteArray.empty, .int .u8 0, .int .u32 0, .int .i64 0, .bool false, .bool false, .int .i32 0, .int .i32 0]) 8 48 Try.underlying26 info24 rfl (by decide) _ 0 0 [] rfl (zero24o W W.heap.size (Nat.le_refl _)) _ A2 m2 d2 (cellsS l) rfl (by rw [cellsS_len, HM.out]) (hoW.alloc _).rd (cellsS_one _) (by unfold maxLen; omega) (by omega) (by simp) ?_; intro A5 d5 w5 ho6 hg hbk)
    rw [Nat.zero_add, List.nil_append] at ho6
    have hb9 : Below W.heap.size W w5 := (bl1 W _).grown hg (by simp) (fun k hk => by simp [blkOf] at hk; omega)
    have hoB : Own w5 w.heap.size 24 8 A2 m2 d2 (cellsS l) := hoW.below hb9
    have hTB := hTW.below hb9
    have hbB := hbW.trans (hb9.mono hzW)
    have hzB := hbB.size
    have HNE : Hid (∀ g, blkOf A5 = some g → ¬ blkOf A2 = some g) := fun g h1 h2 => by
      have := (ho6.lt h1).1
      have := (hoW.lt h2).2
      omega
    have HLO : Hid (∀ i, blkOf A2 = some i → w.heap.size ≤ i) := fun i h => (hoW.lt h).1
    clear hg hbk hoW hTW hb9
    go_loopw [59] (fun iv wx => ∃ (k : Nat) (xs : List Value), k ≤ m2 ∧ iv = .int .i64 (k : Nat) ∧ Own wx w.heap.size 24 8 A2 m2 d2 xs ∧ xs.drop (k * 8) = (cellsS l).drop (k * 8) ∧ Chg (fun i => blkOf A2 = some i) w5 wx) (fun iv _ => m2 - (intOf iv).toNat)
    case atStart => exact ⟨0, _, Nat.zero_le _, rfl, hoB, rfl, Chg.refl _ _⟩
    case round =>
      obtain ⟨k, xs, hk, rfl, hoR, hdr, hch⟩ := hrel
      by_cases hlt : k < m2
      · have hltI : (k : Int) < m2 := by omega
        obtain ⟨s, hs⟩ : ∃ s, l[k]? = some s := ⟨_, List.getElem?_eq_getElem (by rw [HM.out]; exact hlt)⟩
        obtain ⟨b, o, rfl⟩ := hoR.at_ (by omega)
        have c0 := hoR.cells _ _ (drop_cellsS xs l k hdr s hs 0 _ rfl)
        have c2 := hoR.cells _ _ (drop_cellsS xs l k hdr s hs 2 _ rfl)
        have hf := hoR.frozen
        simp only [← Nat.add_assoc, Nat.add_zero] at c0 c2
        have HO := Lib.hid fun u v => (hoR.set_ (k * 8) (by omega) u).set_ (k * 8 + 2) (by omega) v
        have HD := Lib.hid (drop_set2 xs (cellsS l) k hdr)
        have HC := Lib.hid (chg_row hch (o + k * 8) (o + k * 8 + 2))
        clear hoR hdr hch hlt hs hoB hTB ho6 HNE HLO
        go_wp2_with fail
        go_roundw
        case rel => exact ⟨k + 1, _, by omega, by go_num, HO.out _ _, HD.out _ _, HC.out _ _⟩
        case measure => simp [intOf]; omega
      · obtain rfl : k = m2 := by omega
        have hT8 := hTB.chg hoB hch
        have ho8 := ho6.chg hch HNE.out
        have hb10 := hbB.trans (hch.below (fun i _ => HLO.out i) hzB)
        have hz10 := hb10.size
        clear hoR hdr hch hlt hoB hTB ho6 HNE HLO
        generalize wr = wo at *
        go_wp2_with fail
        go_loopw [79] (fun iv wx => ∃ j : Nat, j ≤ k ∧ iv = .int .i64 (j : Nat) ∧ Below wo.heap.size wo wx) (fun iv _ => k - (intOf iv).toNat)
        case atStart => exact ⟨0, Nat.zero_le _, rfl, Below.refl _ _⟩
        case round =>
          obtain ⟨j, hj, rfl, hb⟩ := hrel
          have hz := hb.size
          by_cases hlt : j < k
          · have hltI : (j : Int) < k := by omega
            obtain ⟨s, hs⟩ : ∃ s, l[j]? = some s := ⟨_, List.getElem?_eq_getElem (by rw [HM.out]; exact hlt)⟩
            obtain ⟨b, o, rfl⟩ := ho8.at_ (by omega)
            have hoR := ho8.below hb
            have hcc : ∀ i v, s.cs[i]? = some v → wr.cell? ⟨b, o + (j * 8 + i), none⟩ = some v := fun i v hv => hoR.cells _ _ (cellsS_get l j s hs i v hv)
            have hsm := List.mem_of_getElem? hs
            have hsw := HLW.out s hsm
            have FS := Lib.hid fun (W' : World) (hW' : TabAt W' w2.heap.size t l) => find_any W' _ t l s.nm hW' hd (wf_size hsw)
            rw [find_self l hd j s hs] at FS
            have MY := Lib.hid fun (W' : World) => may_any s W' hsw
            rw [HMAY.out s hsm] at MY
            have hT1 := (hT8.below hb).below (bl1 wr (.cells s.cs 24))
            have BX := Blk.new wr 24 s.cs
            have hb1' := hb.alloc hz (.cells s.cs 24)
            obtain ⟨sn, s1, s2, s3, s4, s5, s6, s7⟩ := s
            have c0 := hcc 0 _ rfl
            have c1 := hcc 1 _ rfl
            have c2 := hcc 2 _ rfl
            have c3 := hcc 3 _ rfl
            have c4 := hcc 4 _ rfl
            have c5 := hcc 5 _ rfl
            have c6 := hcc 6 _ rfl
            have c7 := hcc 7 _ rfl
            simp only [← Nat.add_assoc, Nat.add_zero] at c0 c1 c2 c3 c4 c5 c6 c7
            clear hcc hs hlt hoR hsw hsm
            go_wp2_with fail
            refine (FS.out _ hT1).mono ?_
            rintro e w8 ⟨rfl, hb15⟩
            have hb16 := hb1'.trans (hb15.mono hb1'.size)
            have hz16 := hb16.size
            have cX := fun o => ((BX.below hb15).alloc o).cell
            have hb17 := fun o => hb16.alloc hz16 o
            clear c0 c1 c2 c3 c4 c5 c6 c7 hT1 BX hb15
            unfold fndV
            go_wp2_with fail
            refine (MY.out _).mono ?_
            rintro e w9 ⟨rfl, hb18⟩
            have hb19 := (hb17 _).trans (hb18.mono (hb17 _).size)
            go_wp2_with fail
            go_roundw
            case rel => exact ⟨j + 1, by omega, by go_num, hb19⟩
            case measure => simp [intOf]; omega
          · obtain rfl : j = k := by omega
            have FE := Lib.hid (find_any _ _ _ _ ⟨#[]⟩ (hT8.below hb) hd (Nat.zero_le _))
            rw [find_empty l HMAY.out] at FE
            unfold fndV at FE
            have hb20 := hb10.trans (hb.mono hz10)
            have hz20 := hb20.size
            clear hlt
            go_wp2_with fail
            refine FE.out.mono ?_
            rintro e w8 ⟨rfl, hb15⟩
            have hb16 := hb20.trans (hb15.mono hz20)
            go_wp2_with fail
            go_ret
            exact ⟨rfl, hb16.alloc hb16.size _⟩
  · have hEb : (E == 0) = false := beq_eq_false_iff_ne.2 h0
    obtain rfl := hr2 h0
    clear hr1 hr2 EZ
    go_wp2_with fail
    refine (FN.out _).mono ?_
    rintro e w4 ⟨rfl, hb6⟩
    have hb7 := hb5.trans (hb6.mono hb5.size)
    have hz7 := hb7.size
    unfold fndV
    have hb8 := hb7.alloc hz7 (.cells zeroS.cs 24)
    rcases EV with rfl | rfl | rfl | rfl
    · exact absurd rfl h0
    all_goals
      go_wp2_with fail
      go_ret
      exact ⟨rfl, hb8⟩
end Go.Proofs.Ytmcmlglacblkiaa
