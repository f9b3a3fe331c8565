/- SymFinds: the walk. -/
import Derived.Test.YtmcmlglacblkiaaY17
import Derived.Test.YtmcmlglacblkiaaY5
namespace Go.Proofs.Ytmcmlglacblkiaa
open Go.RowKit Go.Maps
set_option linter.unusedVariables false
set_option linter.unusedSimpArgs false
theorem errN_zero (l : List Sy) (h : errN l = 0) : l.length ≤ 64 ∧ (∀ s ∈ l, s.may = true) ∧ ¬ Dup l := by
  unfold errN at h
  split at h
  · cases h
  · split at h
    · cases h
    · split at h
      · cases h
      case isFalse h1 h2 h3 =>
        refine ⟨by omega, fun s hs => ?_, h3⟩
        cases hm : s.may
        · exact absurd ⟨s, hs, hm⟩ h2
        · rfl
theorem errN_vals (l : List Sy) : errN l = 0 ∨ errN l = 1 ∨ errN l = 3 ∨ errN l = 180 := by
  unfold errN
  split
  · omega
  · split
    · omega
    · split <;> omega
theorem find_self (l : List Sy) (hd : ¬ Dup l) (k : Nat) (s : Sy) (h : l[k]? = some s) : findS l s.nm = some s :=
  find_some l s.nm k s h (by simp) fun j t hj ht => by
    cases he : (t.nm.toList == s.nm.toList)
    · rfl
    · exact absurd ⟨k, j, s, t, hj, h, ht, he⟩ hd
theorem fewS_wf (l : List Sy) (h : ∀ s ∈ l, s.wf) : ∀ s ∈ fewS l, s.wf := fun s hs => by
  unfold fewS at hs
  obtain ⟨t, ht, rfl⟩ := List.mem_map.1 hs
  exact cut_wf t (h t (List.mem_of_mem_take ht))
theorem wf_size {s : Sy} (h : s.wf) : s.nm.size ≤ maxLen := by
  have : maxLen = 9223372036854775807 := by decide
  rw [this]; exact h.nm
set_option maxRecDepth 100000 in
set_option maxHeartbeats 8000000 in
theorem finds_any (A : Option Addr) (n c : Nat) (l0 : List Sy) (nm : ByteArray) (w : World) (hx : l0.length = n) (hr : Rd w w.heap.size A (cellsS l0)) (hl : n ≤ maxLen) (hwf : ∀ s ∈ l0, s.wf) (hnm : nm.size ≤ maxLen) :
    Calls Try.prog 7 #[.slice A n c, .string nm] w fun e w' => e = .returned (.bool true) ∧ Below w.heap.size w w' := by
  have hml : maxLen = 9223372036854775807 := by decide
  have FW := Lib.hid fun (W : World) (hW : Below w.heap.size w W) => few_any A n c l0 W hx ((hr.below hW).more hW.size) hl hwf
  obtain ⟨l, hll⟩ : ∃ l, fewS l0 = l := ⟨_, rfl⟩
  have hlw : ∀ s ∈ l, s.wf := by rw [← hll]; exact fewS_wf l0 hwf
  have hl70 : l.length ≤ 70 := by rw [← hll, fewS_len]; omega
  unfold FewP at FW
  rw [hll] at FW
  obtain ⟨m, hm⟩ : ∃ m, l.length = m := ⟨_, rfl⟩
  rw [hm] at FW hl70
  have NW := Lib.hid fun (W : World) (A' : Option Addr) (d : Nat) (ho : Own W w.heap.size 24 8 A' m d (cellsS l)) => new_any A' m d l W hm ho.rd (by rw [hml]; omega) hlw
  have RNW := Lib.hid fun (W : World) (A' : Option Addr) (d : Nat) (ho : Own W w.heap.size 24 8 A' m d (cellsS l)) => rnew_any A' m d l W hm ho.rd (by rw [hml]; omega) hlw
  have RF := Lib.hid fun (W : World) (B : Nat) (A' : Option Addr) (d : Nat) (ho : Own W B 24 8 A' m d (cellsS l)) => rfind_any A' m d l nm W hm ho.rd (by rw [hml]; omega)
  have RFN := Lib.hid fun (W : World) => rfind_any none 0 0 [] nm W rfl Rd.nil (by rw [hml]; omega)
  have FN := Lib.hid fun (W : World) => find_nil W nm
  have EZ := Lib.hid (errN_zero l)
  have EV := errN_vals l
  obtain ⟨E, hE⟩ : ∃ E, errN l = E := ⟨_, rfl⟩
  unfold TNewP at NW
  unfold NewP at RNW
  rw [hE] at NW RNW EZ EV
  obtain ⟨⟨fn, f1, f2, f3, f4, f5, f6, f7⟩, hfs⟩ : ∃ s, (findS l nm).getD zeroS = s := ⟨_, rfl⟩
  obtain ⟨ok, hok⟩ : ∃ ok, (findS l nm).isSome = ok := ⟨_, rfl⟩
  have FV : Hid (fndV (findS l nm) = .tuple #[.agg #[.string fn, .int .u8 f1, .int .u32 f2, .int .i64 f3, .bool f4, .bool f5, .int .i32 f6, .int .i32 f7], .bool ok]) := by
    show _ = _
    unfold fndV
    rw [hfs, hok]
  clear hfs hok
  have HM := Lib.hid hm
  have HLW := Lib.hid hlw
  clear hE hm hlw hll hx hr hwf hl
  go_enter Try.func7, Try.ntmps7
  go_wp2_with fail
  refine (shown18_any _).mono ?_
  rintro e w1 ⟨rfl, hb1⟩
  go_wp2_with fail
  refine (FW.out _ hb1).mono ?_
  rintro e w2 ⟨A2, m2, d2, rfl, hm2, ho2, hb2⟩
  obtain rfl : m2 = m := hm2
  have hb3 := hb1.trans (hb2.mono hb1.size)
  go_wp2_with fail
  refine (NW.out _ A2 d2 (ho2.more hb1.size)).mono ?_
  rintro e w3 ⟨hr1, hr2, hb4⟩
  have hb5 := hb3.trans (hb4.mono hb3.size)
  clear ho2
  by_cases h0 : E = 0
  · subst h0
    obtain ⟨t, rfl, hT⟩ := hr1 rfl
    obtain ⟨-, -, hd⟩ := EZ.out rfl
    clear hr1 hr2 EV
    go_wp2_with fail
    refine (FW.out _ hb5).mono ?_
    rintro e w4 ⟨A4, m4, d4, rfl, hm4, ho4, hb6⟩
    obtain rfl : m4 = m2 := hm4
    have hb7 := hb5.trans (hb6.mono hb5.size)
    go_wp2_with fail
    refine (RNW.out _ A4 d4 (ho4.more hb5.size)).mono ?_
    rintro e w5 ⟨rfl, hb8⟩
    have hb9 := hb7.trans (hb8.mono hb7.size)
    have hT5 := (hT.below hb6).below hb8
    have ho5 := ho4.below hb8
    go_wp2_with fail
    refine (find_any _ _ _ _ _ hT5 hd hnm).mono ?_
    rintro e w6 ⟨rfl, hb10⟩
    rw [FV.out]
    have hb11 := hb9.trans (hb10.mono hb9.size)
    have hz11 := hb11.size
    have ho6 := ho5.below hb10
    have hT6 := hT5.below hb10
    have BA := Blk.new w6 24 #[.string fn, .int .u8 f1, .int .u32 f2, .int .i64 f3, .bool f4, .bool f5, .int .i32 f6, .int .i32 f7]
    have hb12 := hb11.alloc hz11 (.cells #[.string fn, .int .u8 f1, .int .u32 f2, .int .i64 f3, .bool f4, .bool f5, .int .i32 f6, .int .i32 f7] 24)
    have hz12 := hb12.size
    go_wp2_with fail
    refine (RF.out _ _ A4 d4 (ho6.alloc _)).mono ?_
    rintro e w7 ⟨rfl, hb13⟩
    rw [FV.out]
    have hb14 := hb12.trans (hb13.mono hz12)
    have hz14 := hb14.size
    have ho7 := (ho6.alloc _).below hb13
    have hT7 := (hT6.below (bl1 _ _)).below hb13
    have cA7 := (BA.below hb13).cell
    have cA8 := fun o => ((BA.below hb13).alloc o).cell
    go_wp2_with fail
    refine wp_named fun W hW => ?_
    have hoW : Own W 0 24 8 A4 m4 d4 (cellsS l) := by
      rw [hW]
      exact (ho7.alloc _).more (Nat.zero_le _)
    have hTW : TabAt W w2.heap.size t l := by
      rw [hW]
      exact hT7.below (bl1 _ _)
    have hbW : Below w.heap.size w W := by
      rw [hW]
      exact hb14.alloc hz14 _
    have hzW := hbW.size
    clear hW ho4 ho5 ho6 ho7 hT hT5 hT6 hT7 BA cA7 cA8 hb14 hb13 hb12 hb11 hb10 hb9 hb8 hb7 hb6 hz12 hz14 hz11 FW NW RNW RF RFN FN
    go_loopw [63] (fun iv wx => ∃ k : Nat, k ≤ m4 ∧ iv = .int .i64 (k : Nat) ∧ Below W.heap.size W wx) (fun iv _ => m4 - (intOf iv).toNat)
    case atStart => exact ⟨0, Nat.zero_le _, rfl, Below.refl _ _⟩
    case round =>
      obtain ⟨k, hk, rfl, hb⟩ := hrel
      have hz := hb.size
      by_cases hlt : k < m4
      · have hltI : (k : Int) < m4 := by omega
        obtain ⟨s, hs⟩ : ∃ s, l[k]? = some s := ⟨_, List.getElem?_eq_getElem (by rw [HM.out]; exact hlt)⟩
        obtain ⟨b, o, rfl⟩ := hoW.at_ (by omega)
        have hoR := hoW.below hb
        have hcc : ∀ i v, s.cs[i]? = some v → wr.cell? ⟨b, o + (k * 8 + i), none⟩ = some v := fun i v hv => hoR.cells _ _ (cellsS_get l k s hs i v hv)
        have hsw := wf_size (HLW.out s (List.mem_of_getElem? hs))
        have FS := Lib.hid fun (W' : World) (hW' : TabAt W' w2.heap.size t l) => find_any W' _ t l s.nm hW' hd hsw
        rw [find_self l hd k s hs] at FS
        have hT1 := (hTW.below hb).below (bl1 wr (.cells s.cs 24))
        have BX := Blk.new wr 24 s.cs
        have hb1' := hb.alloc hz (.cells s.cs 24)
        obtain ⟨sn, s1, s2, s3, s4, s5, s6, s7⟩ := s
        have c0 := hcc 0 _ rfl
        have c1 := hcc 1 _ rfl
        have c2 := hcc 2 _ rfl
        have c3 := hcc 3 _ rfl
        have c4 := hcc 4 _ rfl
        have c5 := hcc 5 _ rfl
        have c6 := hcc 6 _ rfl
        have c7 := hcc 7 _ rfl
        simp only [← Nat.add_assoc, Nat.add_zero] at c0 c1 c2 c3 c4 c5 c6 c7
        clear hcc hs hlt hoR hsw
        go_wp2_with fail
        refine (FS.out _ hT1).mono ?_
        rintro e w8 ⟨rfl, hb15⟩
        have hb16 := hb1'.trans (hb15.mono hb1'.size)
        have hz16 := hb16.size
        have cX := fun o => ((BX.below hb15).alloc o).cell
        clear c0 c1 c2 c3 c4 c5 c6 c7 hT1 BX hb15
        unfold fndV
        go_wp2_with fail
        go_roundw
        case rel => exact ⟨k + 1, by omega, by go_num, hb16.alloc hz16 _⟩
        case measure => simp [intOf]; omega
      · obtain rfl : k = m4 := by omega
        go_wp2_with fail
        go_ret
        exact ⟨rfl, hbW.trans (hb.mono hzW)⟩
  · obtain rfl := hr2 h0
    have hEb : (E == 0) = false := beq_eq_false_iff_ne.2 h0
    have hEn : (E != 0) = true := by simpa using h0
    simp only [if_neg h0] at RNW
    clear hr1 hr2 EV EZ
    go_wp2_with fail
    refine (FW.out _ hb5).mono ?_
    rintro e w4 ⟨A4, m4, d4, rfl, hm4, ho4, hb6⟩
    obtain rfl : m4 = m2 := hm4
    have hb7 := hb5.trans (hb6.mono hb5.size)
    go_wp2_with fail
    refine (RNW.out _ A4 d4 (ho4.more hb5.size)).mono ?_
    rintro e w5 ⟨rfl, hb8⟩
    have hb9 := hb7.trans (hb8.mono hb7.size)
    clear ho4
    go_wp2_with fail
    refine (FN.out _).mono ?_
    rintro e w6 ⟨rfl, hb10⟩
    have hb11 := hb9.trans (hb10.mono hb9.size)
    have hz11 := hb11.size
    have BA := Blk.new w6 24 zeroS.cs
    have hb12 := hb11.alloc hz11 (.cells zeroS.cs 24)
    have hz12 := hb12.size
    have fn0 : findS [] nm = none := rfl
    rw [fn0] at RFN
    unfold fndV
    unfold fndV at RFN
    go_wp2_with fail
    refine (RFN.out _).mono ?_
    rintro e w7 ⟨rfl, hb13⟩
    have hb14 := hb12.trans (hb13.mono hz12)
    have hz14 := hb14.size
    have cA7 := (BA.below hb13).cell
    have cA8 := fun o => ((BA.below hb13).alloc o).cell
    go_wp2_with fail
    go_loopw [63] (fun iv wx => iv = .int .i64 0 ∧ Below w.heap.size w wx) (fun iv _ => 0)
    case atStart => exact ⟨rfl, hb14.alloc hz14 _⟩
    case round =>
      obtain ⟨rfl, hb⟩ := hrel
      go_wp2_with fail
      go_ret
      exact ⟨rfl, hb⟩
end Go.Proofs.Ytmcmlglacblkiaa
