/- DaqLays: the walk. -/
import Derived.Test.YtjjifldgfihjgaaGV
import Derived.Test.YtjjifldgfihjgaaGL
import Derived.BigQuiet
namespace Go.Proofs.Ytjjifldgfihjgaa
open Go.RowKit
set_option linter.unusedVariables false
set_option linter.unusedSimpArgs false
def kkF (xs : List Int) (i : Nat) : Nat := (xs.getD i 0).toNat % 4
theorem kkF_le (xs : List Int) (i : Nat) : kkF xs i ≤ 3 := by
  have := Nat.mod_lt (xs.getD i 0).toNat (show 0 < 4 by decide)
  unfold kkF
  omega
theorem kkF_at {xs : List Int} {i : Nat} {x : Int} (h : xs[i]? = some x) (hx : 0 ≤ x ∧ x < 256) : x % 4 = (kkF xs i : Int) ∧ Int.tmod x 4 = (kkF xs i : Int) := by
  have e : kkF xs i = x.toNat % 4 := by
    unfold kkF
    rw [List.getD_eq_getElem?_getD, h]
    rfl
  rw [e]
  constructor
  · omega
  · rw [Int.tmod_eq_emod_of_nonneg hx.1]
    omega
theorem lays_at {kk : Nat → Nat} {N : Nat} {pt : Int} {m s : Nat} {cl : List Lc} (hab : abs cl = listsX (fz m s (F5 kk N pt) none).ls) {i : Nat} {x : Lc} (hx : cl[i]? = some x) :
    x.stim = true ∧ x.ev = 1 ∧ x.pre = 3 ∧ x.pri = i ∧ x.on = decide (0 < kk i) ∧ x.ch = false ∧ x.tabs.length = kk i ∧ ∀ (j : Nat) (t : Tb), x.tabs[j]? = some t → t.es.length = N ∧ ∀ (z : Nat) (e : En), t.es[z]? = some e → e = ⟨1, j, wr0 pt z⟩ := by
  have h1 := abs_get hx
  rw [hab] at h1
  have hi : i < m := by
    have := (List.getElem?_eq_some_iff.1 h1).1
    rw [listsX_len] at this
    simpa [fz] using this
  unfold listsX at h1
  rw [lsts_get, show (fz m s (F5 kk N pt) none).ls[i]? = some (F5 kk N pt i) from rg_get _ hi] at h1
  simp only [Option.map_some, Option.some.injEq] at h1
  have ht : x.tabs.map Tb.ab = T4 kk N pt i := by
    have := congrArg Ls.tabs h1
    exact this.symm
  have hf := fun {α : Type} (f : Ls → α) => congrArg f h1
  refine ⟨(hf Ls.stim).symm, (hf Ls.ev).symm, (hf Ls.pre).symm, (hf Ls.pri).symm, (hf Ls.on).symm, (hf Ls.ch).symm, ?_, fun j t hjt => ?_⟩
  · have := congrArg List.length ht
    simpa [T4, tb] using this
  · have h2 : (x.tabs.map Tb.ab)[j]? = some t.es := by rw [List.getElem?_map, hjt]; rfl
    rw [ht] at h2
    have hj : j < kk i := by
      have := (List.getElem?_eq_some_iff.1 h2).1
      simpa [T4, tb] using this
    rw [show (T4 kk N pt i)[j]? = some ((List.range N).map fun z => (⟨1, j, wr0 pt z⟩ : En)) from rg_get _ hj] at h2
    simp only [Option.some.injEq] at h2
    rw [← h2]
    refine ⟨by simp, fun z e hz => ?_⟩
    have hzN : z < N := by
      have := (List.getElem?_eq_some_iff.1 hz).1
      simpa using this
    rw [rg_get _ hzN] at hz
    simpa using hz.symm
set_option maxRecDepth 100000 in
set_option maxHeartbeats 8000000 in
theorem lays_law (A : Option Addr) (n c : Nat) (xs : List Int) (many pt : Int) (w : World) (hn : xs.length = n) (hc : n ≤ c) (hcm : c ≤ maxLen) (hA : A = none → n = 0 ∧ c = 0) (hr : Rd w w.heap.size A (u8s xs)) (hx : ∀ z ∈ xs, 0 ≤ z ∧ z < 256) (hm : 0 ≤ many ∧ many < 256) (hp : 0 ≤ pt ∧ pt < 4294967296) :
    Calls Try.prog 5 #[.slice A n c, .int .u8 many, .int .u32 pt] w fun e w' => e = .returned (.bool true) ∧ Below w.heap.size w w' := by
  have SH := Lib.hid (shown_any w)
  have HR := Lib.hid hr
  have HX := Lib.hid hx
  have HXL := Lib.hid hn
  obtain ⟨m, hm4⟩ : ∃ m, (if n ≤ 4 then n else 4) = m := ⟨_, rfl⟩
  have hmn : m ≤ n ∧ m ≤ 4 := by split at hm4 <;> omega
  have hmc : m ≤ c := by omega
  obtain ⟨N, hN⟩ : ∃ N : Nat, many % 7 + 1 = N := ⟨(many % 7 + 1).toNat, by omega⟩
  have hN' : Int.tmod many 7 + 1 = N := by rw [Int.tmod_eq_emod_of_nonneg hm.1]; exact hN
  have hN1 : 1 ≤ N ∧ N ≤ 7 := by omega
  clear hr hx hn
  have hmf : ∀ (fn : Fn) (first cap : Array Value) (w : World), (Instr.makeFunc fn first cap).run Try.prog w = .ok (.func fn first cap) w := fun _ _ _ _ => rfl
  go_enter Try.func5, Try.ntmps5
  go_wp2_with fail
  refine SH.out.mono ?_
  rintro e w1 ⟨rfl, hb1⟩
  have N1 := Lib.hid (newd_any (fun _ => (0, 9)) w.heap.size 2 w1 hb1.size (nu0 w1) (by decide) (by decide))
  clear SH
  go_wp2_with fail
  refine N1.out.mono ?_
  rintro e w2 ⟨q, Φ2, rfl, hq, hX2, hx2⟩
  have hb2 := hb1.trans (hx2.below hb1.size)
  have HX2 := Lib.hid hX2
  have HN2 := Lib.hid hx2.nu
  clear N1 hX2 hx2 hb1
  go_upto_region 5 with fail
  refine wp_named fun W hW => ?_
  obtain ⟨BD, hbW⟩ := blk1 (c1 := #[.pointer (some ⟨q, 0, none⟩)]) hW
  obtain ⟨gd, hgd⟩ : ∃ gd, w2.heap.size = gd := ⟨_, rfl⟩
  have HZ : Hid (LZ w q gd ⟨2, 0, [], none⟩ W) := Lib.hid ⟨Φ2, HX2.out.below hbW, HN2.out.below hbW, ⟨by rw [← hgd]; exact BD, HN2.out gd (by omega)⟩, hb2.trans (hbW.mono hb2.size)⟩
  rw [hgd]
  clear hW BD hbW HX2 HN2 hb2 hgd hq
  go_cut [10] (fun v wx => v = .slice A m c ∧ wx = W)
  case first =>
    by_cases h4 : n ≤ 4
    · rw [if_pos h4] at hm4
      subst hm4
      cases A with
      | none =>
        obtain ⟨rfl, rfl⟩ := hA rfl
        go_wp2_with fail
        go_meet
        case rel => exact ⟨rfl, rfl⟩
      | some a =>
        go_wp2_with fail
        go_meet
        case rel => exact ⟨rfl, rfl⟩
    · rw [if_neg h4] at hm4
      subst hm4
      cases A with
      | none =>
        have := hA rfl
        omega
      | some a =>
        go_wp2_with fail
        go_meet
        case rel => exact ⟨rfl, rfl⟩
  case rest =>
    obtain ⟨rfl, rfl⟩ := hcut
    obtain ⟨kk, hkk⟩ : ∃ kk, kkF xs = kk := ⟨_, rfl⟩
    have hk3 : ∀ i, kk i ≤ 3 := fun i => by rw [← hkk]; exact kkF_le xs i
    have HK3 := Lib.hid hk3
    have AT : Hid (∀ (i : Nat), i < m → ∃ x, (u8s xs)[i]? = some (.int .u8 x) ∧ x % 4 = (kk i : Int) ∧ Int.tmod x 4 = (kk i : Int)) := Lib.hid fun i hi => by
      obtain ⟨x, hxi⟩ : ∃ x, xs[i]? = some x := ⟨_, List.getElem?_eq_getElem (by rw [HXL.out]; omega)⟩
      have := kkF_at hxi (HX.out x (List.mem_of_getElem? hxi))
      rw [hkk] at this
      exact ⟨x, by simp [u8s, hxi], this.1, this.2⟩
    obtain ⟨r7, hr7⟩ : ∃ r : Nat, many % 7 = r := ⟨(many % 7).toNat, by omega⟩
    have hr7' : Int.tmod many 7 = r7 := by rw [Int.tmod_eq_emod_of_nonneg hm.1]; exact hr7
    have hwN : IntKind.u8.wrap ((r7 : Int) + 1) = N := by
      rw [hr7] at hN
      rw [hN]
      exact IntWalk.u8_in _ (by omega)
    have hwm : IntKind.u8.wrap (m : Int) = m := IntWalk.u8_in _ (by omega)
    have Z := HZ.out
    have C0 := Lib.hid (Z.do_ [(m : Int)] (k := 19) (v := 0) (n := 1) rfl (by decide) (by decide) (fun B w => cm_in _ _ (by simp; omega)) _ rfl (r := (fz m 1 (F1 kk 0) none, 0)) (by rw [show cmL 19 [(m : Int)] 0 = cm 19 m 0 0 0 0 0 from rfl, lay0 hmn.2]; exact ⟨rfl, rfl⟩))
    clear hm4 hN hN' hk3 hkk HX HXL Z
    go_wp2_with fail
    refine C0.out.mono ?_
    rintro e w3 ⟨rfl, hZ3⟩
    have HZ3 := Lib.hid hZ3
    clear C0 hZ3 HZ
    go_wp2_with fail
    go_loopw [60, 13] (fun iv kv wr => ∃ i s : Nat, i ≤ m ∧ iv = .int .i64 i ∧ kv = .bool true ∧ ((i = 0 ∧ s = 1) ∨ s = 2) ∧ LZ w q gd (fz m s (F1 kk i) none) wr) (fun iv _ _ => m - (intOf iv).toNat)
    case atStart => exact ⟨0, 1, Nat.zero_le _, rfl, rfl, .inl ⟨rfl, rfl⟩, HZ3.out⟩
    case round =>
      obtain ⟨i, s, hi, rfl, rfl, hs, hZ⟩ := hrel
      by_cases hil : i < m
      · have HIL := Lib.hid hil
        have hil' : (i : Int) < m := by omega
        have hi4 : (i : Int) ≤ 3 := by omega
        obtain ⟨x, hxi, hx4, hx4'⟩ := AT.out i hil
        have hR := HR.out.bel hZ.bel
        obtain ⟨g, o, rfl⟩ := hR.some_ (ne_nil_of_get hxi)
        have rx := hR.rule hxi wr (Below.refl _ _)
        have hki := HK3.out i
        obtain ⟨K, hK⟩ : ∃ K, kk i = K := ⟨_, rfl⟩
        have HKK := Lib.hid hK
        rw [hK] at hki hx4 hx4'
        have hkiI : (K : Int) ≤ 3 := by omega
        have hwi : IntKind.u8.wrap (i : Int) = i := IntWalk.u8_in _ (by omega)
        have C1 := Lib.hid (hZ.do_ [(i : Int), (kk i : Nat)] (k := 20) (v := 0) (n := 2) rfl (by decide) (by decide) (fun B w => cm_in _ _ (by simp; omega)) _ rfl (r := (fz m 2 (F1 kk (i + 1)) none, 0)) (by rw [show cmL 20 [(i : Int), (kk i : Nat)] 0 = cm 20 i (kk i) 0 0 0 0 from rfl, lay1 hmn.2 HK3.out hil (by omega)]; exact ⟨rfl, rfl⟩))
        rw [hK] at C1
        clear hZ hR hxi hki hK hs
        go_wp2_with fail
        refine C1.out.mono ?_
        rintro e w4 ⟨rfl, hZ4⟩
        have HZ4 := Lib.hid hZ4
        clear C1 hZ4
        go_wp2_with fail
        go_roundw
        case rel => exact ⟨i + 1, 2, HIL.out, by go_num, rfl, .inr rfl, HZ4.out⟩
        case measure => simp [intOf]; omega
      obtain rfl : m = i := by omega
      have HZ5 : Hid ((m = 0 ∨ s = 2 ∨ s = 3) ∧ LZ w q gd (fz m s (F2 kk N 0 0) none) wr) := Lib.hid ⟨by omega, hZ.eq (lay12 (m := 0))⟩
      clear hZ hs hil HZ3
      go_wp2_with fail
      go_loopw [78, 13] (fun iv kv wr => ∃ i s : Nat, i ≤ m ∧ iv = .int .i64 i ∧ kv = .bool true ∧ (m = 0 ∨ s = 2 ∨ s = 3) ∧ LZ w q gd (fz m s (F2 kk N i 0) none) wr) (fun iv _ _ => m - (intOf iv).toNat)
      case atStart => exact ⟨0, s, Nat.zero_le _, rfl, rfl, HZ5.out.1, HZ5.out.2⟩
      case round =>
        obtain ⟨i, s, hi, rfl, rfl, hs, hZ⟩ := hrel
        by_cases hil : i < m
        · have HIL := Lib.hid hil
          have hil' : (i : Int) < m := by omega
          have hi4 : (i : Int) ≤ 3 := by omega
          obtain ⟨x, hxi, hx4, hx4'⟩ := AT.out i hil
          have hR := HR.out.bel hZ.bel
          obtain ⟨g, o, rfl⟩ := hR.some_ (ne_nil_of_get hxi)
          have rx := hR.rule hxi wr (Below.refl _ _)
          have hki := HK3.out i
          obtain ⟨K, hK⟩ : ∃ K, kk i = K := ⟨_, rfl⟩
          have HKK := Lib.hid hK
          rw [hK] at hki hx4 hx4'
          have hkiI : (K : Int) ≤ 3 := by omega
          have hwi : IntKind.u8.wrap (i : Int) = i := IntWalk.u8_in _ (by omega)
          have HZ6 : Hid ((s = 2 ∨ s = 3) ∧ LZ w q gd (fz m s (F2 kk N i 0) none) wr) := Lib.hid ⟨by omega, hZ⟩
          clear hZ hR hxi hK hs HZ5
          go_wp2_with fail
          go_loopw [85, 13] (fun jv kv wr => ∃ j s : Nat, j ≤ K ∧ jv = .int .u8 j ∧ kv = .bool true ∧ (s = 2 ∨ s = 3) ∧ LZ w q gd (fz m s (F2 kk N i j) none) wr) (fun jv _ _ => K - (intOf jv).toNat)
          case atStart => exact ⟨0, s, Nat.zero_le _, rfl, rfl, HZ6.out.1, HZ6.out.2⟩
          case round =>
            obtain ⟨j, s, hj, rfl, rfl, hs, hZ⟩ := hrel
            by_cases hjl : j < K
            · have HJL := Lib.hid hjl
              have hjl' : (j : Int) < K := by omega
              have hwj : IntKind.u8.wrap ((j : Int) + 1) = ((j + 1 : Nat) : Int) := IntWalk.u8_in _ (by omega)
              have C2 := Lib.hid (hZ.do_ [(i : Int), (j : Nat), (N : Nat)] (k := 21) (v := 0) (n := 3) rfl (by decide) (by decide) (fun B w => cm_in _ _ (by simp; omega)) _ rfl (r := (fz m 3 (F2 kk N i (j + 1)) none, 0)) (by rw [show cmL 21 [(i : Int), (j : Nat), (N : Nat)] 0 = cm 21 i j N 0 0 0 from rfl, lay2 HIL.out (by rw [HKK.out]; exact hjl) hN1.2 hs]; exact ⟨rfl, rfl⟩))
              clear hZ hs
              go_wp2_with fail
              refine C2.out.mono ?_
              rintro e w4 ⟨rfl, hZ4⟩
              have HZ4 := Lib.hid hZ4
              clear C2 hZ4
              go_wp2_with fail
              go_roundw
              case rel => exact ⟨j + 1, 3, HJL.out, by go_num, rfl, .inr rfl, HZ4.out⟩
              case measure => simp [intOf]; omega
            · obtain rfl : K = j := by omega
              have HZ7 : Hid ((m = 0 ∨ s = 2 ∨ s = 3) ∧ LZ w q gd (fz m s (F2 kk N (i + 1) 0) none) wr) := Lib.hid ⟨.inr hs, hZ.eq (by rw [← HKK.out]; exact lay22)⟩
              clear hZ hs HZ6
              go_wp2_with fail
              go_roundw
              case rel => exact ⟨i + 1, s, HIL.out, by go_num, rfl, HZ7.out.1, HZ7.out.2⟩
              case measure => simp [intOf]; omega
        obtain rfl : m = i := by omega
        have HZ8 : Hid (LZ w q gd (fz m s (F3 kk N pt 0 0 0) none) wr) := Lib.hid (hZ.eq lay23)
        clear hZ hs hil HZ5
        go_wp2_with fail
        go_loopw [102, 13] (fun iv kv wr => ∃ i s : Nat, i ≤ m ∧ iv = .int .i64 i ∧ kv = .bool true ∧ LZ w q gd (fz m s (F3 kk N pt i 0 0) none) wr) (fun iv _ _ => m - (intOf iv).toNat)
        case atStart => exact ⟨0, s, Nat.zero_le _, rfl, rfl, HZ8.out⟩
        case round =>
          obtain ⟨i, s, hi, rfl, rfl, hZ⟩ := hrel
          by_cases hil : i < m
          · have HIL := Lib.hid hil
            have hil' : (i : Int) < m := by omega
            have hi4 : (i : Int) ≤ 3 := by omega
            obtain ⟨x, hxi, hx4, hx4'⟩ := AT.out i hil
            have hR := HR.out.bel hZ.bel
            obtain ⟨g, o, rfl⟩ := hR.some_ (ne_nil_of_get hxi)
            have rx := hR.rule hxi wr (Below.refl _ _)
            have hki := HK3.out i
            obtain ⟨K, hK⟩ : ∃ K, kk i = K := ⟨_, rfl⟩
            have HKK := Lib.hid hK
            rw [hK] at hki hx4 hx4'
            have hkiI : (K : Int) ≤ 3 := by omega
            have hwi : IntKind.u8.wrap (i : Int) = i := IntWalk.u8_in _ (by omega)
            have HZ6 : Hid (LZ w q gd (fz m s (F3 kk N pt i 0 0) none) wr) := Lib.hid hZ
            clear hZ hR hxi hK HZ8
            go_wp2_with fail
            go_loopw [109, 13] (fun jv kv wr => ∃ j s : Nat, j ≤ K ∧ jv = .int .u8 j ∧ kv = .bool true ∧ LZ w q gd (fz m s (F3 kk N pt i j 0) none) wr) (fun jv _ _ => K - (intOf jv).toNat)
            case atStart => exact ⟨0, s, Nat.zero_le _, rfl, rfl, HZ6.out⟩
            case round =>
              obtain ⟨j, s, hj, rfl, rfl, hZ⟩ := hrel
              by_cases hjl : j < K
              · have HJL := Lib.hid hjl
                have hjl' : (j : Int) < K := by omega
                have hwj : IntKind.u8.wrap ((j : Int) + 1) = ((j + 1 : Nat) : Int) := IntWalk.u8_in _ (by omega)
                have C2 := Lib.hid (hZ.do_ [(i : Int), (j : Nat), 0] (k := 22) (v := 0) (n := 3) rfl (by decide) (by decide) (fun B w => cm_in _ _ (by simp; omega)) _ rfl (r := (fz m s (F3 kk N pt i j 0) (some (i, j, 0)), 0)) (by rw [show cmL 22 [(i : Int), (j : Nat), 0] 0 = cm 22 i j 0 0 0 0 from rfl, lay3p HIL.out (by rw [HKK.out]; exact hjl) hN1.1]; exact ⟨rfl, rfl⟩))
                clear hZ HZ6
                go_wp2_with fail
                refine C2.out.mono ?_
                rintro e w4 ⟨rfl, hZ4⟩
                have HZ4 := Lib.hid hZ4
                clear C2 hZ4
                go_wp2_with fail
                go_loopw [122, 13] (fun zv kv wr => ∃ z : Nat, z ≤ N ∧ zv = .int .u8 z ∧ kv = .bool true ∧ LZ w q gd (fz m s (F3 kk N pt i j z) (if z = N then none else some (i, j, z))) wr) (fun zv _ _ => N - (intOf zv).toNat)
                case atStart => exact ⟨0, Nat.zero_le _, rfl, rfl, HZ4.out.eq (by rw [if_neg (by omega)])⟩
                case round =>
                  obtain ⟨z, hz, rfl, rfl, hZ⟩ := hrel
                  by_cases hzl : z < N
                  · have HZL := Lib.hid hzl
                    have hzl' : (z : Int) < N := by omega
                    have hN7 : (N : Int) ≤ 7 := by omega
                    have hwz : IntKind.u8.wrap ((z : Int) + 1) = ((z + 1 : Nat) : Int) := IntWalk.u8_in _ (by omega)
                    have hwp : IntKind.u32.wrap (pt + (z : Int)) = wr0 pt z := by rw [IntKind.wrap_u32]; rfl
                    have hwp0 : 0 ≤ wr0 pt z ∧ wr0 pt z < 4294967296 := by unfold wr0; omega
                    have hw32 : IntKind.u32.wrap (z : Int) = z := by rw [IntKind.wrap_u32]; omega
                    have hZ := hZ.eq (b := fz m s (F3 kk N pt i j z) (some (i, j, z))) (by rw [if_neg (by omega)])
                    have C3 := Lib.hid (hZ.do_ [(1 : Int), (j : Nat)] (k := 23) (v := wr0 pt z) (n := 2) rfl (by decide) (by decide) (fun B w => cm_in _ _ (by simp; omega)) _ rfl (r := (fz m s (F3 kk N pt i j (z + 1)) (if z + 1 = N then none else some (i, j, z + 1)), 0)) (by rw [show cmL 23 [(1 : Int), (j : Nat)] (wr0 pt z) = cm 23 1 j 0 0 0 (wr0 pt z) from rfl, lay3w HIL.out (by rw [HKK.out]; exact HJL.out) hzl hN1.2]; exact ⟨rfl, rfl⟩))
                    obtain ⟨WZ, hWZ⟩ : ∃ WZ, wr0 pt z = WZ := ⟨_, rfl⟩
                    rw [hWZ] at hwp C3
                    clear hZ HZ4 hWZ hwp0
                    go_wp2_with fail
                    refine C3.out.mono ?_
                    rintro e w5 ⟨rfl, hZ5⟩
                    have HZ5 := Lib.hid hZ5
                    clear C3 hZ5
                    go_wp2_with fail
                    go_roundw
                    case rel => exact ⟨z + 1, HZL.out, by go_num, rfl, HZ5.out⟩
                    case measure => simp [intOf]; omega
                  · obtain rfl : N = z := by omega
                    have HZ7 : Hid (LZ w q gd (fz m s (F3 kk N pt i (j + 1) 0) none) wr) := Lib.hid ((hZ.eq (b := fz m s (F3 kk N pt i j N) none) (by rw [if_pos rfl])).eq lay33)
                    clear hZ HZ4
                    go_wp2_with fail
                    go_roundw
                    case rel => exact ⟨j + 1, s, HJL.out, by go_num, rfl, HZ7.out⟩
                    case measure => simp [intOf]; omega
              · obtain rfl : K = j := by omega
                have HZ7 : Hid (LZ w q gd (fz m s (F3 kk N pt (i + 1) 0 0) none) wr) := Lib.hid (hZ.eq (by rw [← HKK.out]; exact lay34))
                clear hZ HZ6
                go_wp2_with fail
                go_roundw
                case rel => exact ⟨i + 1, s, HIL.out, by go_num, rfl, HZ7.out⟩
                case measure => simp [intOf]; omega
          obtain rfl : m = i := by omega
          have HZ9 : Hid (LZ w q gd (fz m s (F4 kk N pt 0) none) wr) := Lib.hid (hZ.eq lay35)
          clear hZ hil HZ8
          go_wp2_with fail
          go_loopw [141, 13] (fun iv kv wr => ∃ i : Nat, i ≤ m ∧ iv = .int .i64 i ∧ kv = .bool true ∧ LZ w q gd (fz m s (F4 kk N pt i) none) wr) (fun iv _ _ => m - (intOf iv).toNat)
          case atStart => exact ⟨0, Nat.zero_le _, rfl, rfl, HZ9.out⟩
          case round =>
            obtain ⟨i, hi, rfl, rfl, hZ⟩ := hrel
            by_cases hil : i < m
            · have HIL := Lib.hid hil
              have hil' : (i : Int) < m := by omega
              have hi4 : (i : Int) ≤ 3 := by omega
              obtain ⟨x, hxi, hx4, hx4'⟩ := AT.out i hil
              have hR := HR.out.bel hZ.bel
              obtain ⟨g, o, rfl⟩ := hR.some_ (ne_nil_of_get hxi)
              have rx := hR.rule hxi wr (Below.refl _ _)
              have hki := HK3.out i
              obtain ⟨K, hK⟩ : ∃ K, kk i = K := ⟨_, rfl⟩
              have HKK := Lib.hid hK
              rw [hK] at hki hx4 hx4'
              have hkiI : (K : Int) ≤ 3 := by omega
              have hwi : IntKind.u8.wrap (i : Int) = i := IntWalk.u8_in _ (by omega)
              have C4 := Lib.hid (hZ.do_ [(i : Int), 1, 1, 3, (i : Int)] (k := 24) (v := 0) (n := 5) rfl (by decide) (by decide) (fun B w => cm_in _ _ (by simp; omega)) _ rfl (r := (fz m s (F4m kk N pt i) none, 0)) (by rw [show cmL 24 [(i : Int), 1, 1, 3, (i : Int)] 0 = cm 24 i 1 1 3 i 0 from rfl, lay4 hil]; exact ⟨rfl, rfl⟩))
              have NX : Hid (∀ w', LZ w q gd (fz m s (F4m kk N pt i) none) w' → Calls Try.prog 15 #[.int .u8 25, .int .u32 0, .slice (some ⟨w'.heap.size, 0, none⟩) 2 2, .pointer (some ⟨gd, 0, none⟩)] (w'.alloc (.cells #[.int .u8 i, .int .u8 2] 5)) fun e w'' => e = .returned (.bool ((if 0 < K then (0 : Int) else 90) == 0)) ∧ LZ w q gd (fz m s (F4 kk N pt (i + 1)) none) w'') := Lib.hid fun w' h => h.do_ [(i : Int), 2] (k := 25) (v := 0) (n := 2) rfl (by decide) (by decide) (fun B w => cm_in _ _ (by simp; omega)) _ rfl (r := (fz m s (F4 kk N pt (i + 1)) none, if 0 < K then 0 else 90)) (by
                rw [show cmL 25 [(i : Int), 2] 0 = cm 25 i 2 0 0 0 0 from rfl, ← HKK.out]
                exact lay4s hil (by omega))
              clear hZ hR hxi hK
              go_wp2_with fail
              refine C4.out.mono ?_
              rintro e w4 ⟨rfl, hZ4⟩
              have C5 := Lib.hid (NX.out _ hZ4)
              clear C4 NX hZ4
              obtain ⟨pb, hpb⟩ : ∃ pb, decide (0 < K) = pb := ⟨_, rfl⟩
              have hpb' : decide ((0 : Int) < K) = pb := by rw [← hpb]; exact decide_eq_decide.2 (by omega)
              have hpc : ((if 0 < K then (0 : Int) else 90) == 0) = pb := by
                rw [← hpb]
                by_cases h0 : 0 < K
                · rw [if_pos h0, decide_eq_true h0]; rfl
                · rw [if_neg h0, decide_eq_false h0]; rfl
              rw [hpc] at C5
              clear hpc
              go_wp2_with fail
              refine C5.out.mono ?_
              rintro e w5 ⟨rfl, hZ5⟩
              have HZ5 := Lib.hid hZ5
              clear C5 hZ5
              go_wp2_with fail
              go_roundw
              case rel => exact ⟨i + 1, HIL.out, by go_num, rfl, HZ5.out⟩
              case measure => simp [intOf]; omega
            obtain rfl : m = i := by omega
            have C6 := Lib.hid (hZ.do_ [(1 : Int)] (k := 26) (v := 0) (n := 1) rfl (by decide) (by decide) (fun B w => cm_in _ _ (by decide)) _ rfl (r := (fz m s (F5 kk N pt) none, 0)) (by rw [show cmL 26 [(1 : Int)] 0 = cm 26 1 0 0 0 0 0 from rfl, lay5]; exact ⟨rfl, rfl⟩))
            clear hZ hil HZ9
            go_wp2_with fail
            refine C6.out.mono ?_
            rintro e w6 ⟨rfl, hZ6⟩
            have hc6 := hZ6.cell 0
            have HB6 := Lib.hid hZ6.bel
            obtain ⟨Φ6, hX6, -⟩ := hZ6
            have LS := Lib.hid (lists_any hX6)
            clear C6 hX6
            go_wp2_with fail
            refine LS.out.mono ?_
            rintro e w7 ⟨A7, c7, cl, rfl, hab, hO, hb7⟩
            have HB7 := Lib.hid (HB6.out.trans (hb7.mono HB6.out.size))
            have RR := Lib.hid hO.rl
            have CX := Lib.hid (fun i x hx => lays_at (i := i) (x := x) hab hx)
            have hcl : cl.length = m := by rw [← abs_len, hab, listsX_len]; simp [fz]
            have HCL := Lib.hid hcl
            rw [hcl]
            clear LS hO hab hcl hc6 HB6
            go_wp2_with fail
            go_loopw [187] (fun iv wr => ∃ i : Nat, i ≤ m ∧ iv = .int .i64 i ∧ Below w7.heap.size w7 wr) (fun iv _ => m - (intOf iv).toNat)
            case atStart => exact ⟨0, Nat.zero_le _, rfl, Below.refl _ _⟩
            case round =>
              obtain ⟨i, hi, rfl, hb⟩ := hrel
              by_cases hil : i < m
              · have HIL := Lib.hid hil
                have hil' : (i : Int) < m := by omega
                have hi4 : (i : Int) ≤ 3 := by omega
                obtain ⟨x0, hxi, hx4, hx4'⟩ := AT.out i hil
                have hR := HR.out.bel (HB7.out.trans (hb.mono HB7.out.size))
                obtain ⟨g, o, rfl⟩ := hR.some_ (ne_nil_of_get hxi)
                have rq := hR.rule hxi
                have hki := HK3.out i
                obtain ⟨x, hx⟩ : ∃ x, cl[i]? = some x := ⟨_, List.getElem?_eq_getElem (by rw [HCL.out]; exact hil)⟩
                obtain ⟨k1, k2, k3, k4, k5, k6, k7, k8⟩ := CX.out i x hx
                have HTS := Lib.hid k8
                have HTL := Lib.hid k7
                obtain ⟨K, hK⟩ : ∃ K, kk i = K := ⟨_, rfl⟩
                rw [hK] at hki hx4 hx4' k5 k7
                have HKK := Lib.hid hK
                have hkiI : (K : Int) ≤ 3 := by omega
                have hwi : IntKind.u8.wrap (i : Int) = i := IntWalk.u8_in _ (by omega)
                have hwK : IntKind.i64.wrap (K : Int) = K := IntWalk.i64_in _ (by omega)
                have hL := RR.out.below hb
                obtain ⟨g7, o7, rfl⟩ := hL.row.some_ (ne_nil_of_get (lcells_at hx (j := 0) rfl))
                have ry := fun j u hu => hL.row.rule (lcells_at hx (j := j) (u := u) hu) wr (Below.refl _ _)
                have r0 := ry 0 _ rfl
                have r1 := ry 1 _ rfl
                have r2 := ry 2 _ rfl
                have r3 := ry 3 _ rfl
                have r4 := ry 4 _ rfl
                have r5 := ry 5 _ rfl
                have r6 := ry 6 _ rfl
                have r7 := ry 7 _ rfl
                rw [Nat.add_zero] at r0
                rw [← Nat.add_assoc] at r1 r2 r3 r4 r5 r6 r7
                rw [k7] at r1
                rw [k1] at r2
                rw [k2] at r3
                rw [k3] at r4
                rw [k4] at r5
                rw [k5] at r6
                rw [k6] at r7
                have HTX := Lib.hid (fun w' (h : Below w7.heap.size w7 w') => (RR.out.below h).tab i x hx)
                have HEX := Lib.hid (fun w' j t (h : Below w7.heap.size w7 w') (ht : x.tabs[j]? = some t) => (RR.out.below h).ent i x j t hx ht)
                have HB := Lib.hid hb
                have hz := hb.size
                obtain ⟨xA, hxA⟩ : ∃ xA, x.A = xA := ⟨_, rfl⟩
                rw [hxA] at r1 HTX
                clear hb hL ry hx k1 k2 k3 k4 k5 k6 k7 k8 hK hR hxi hxA
                go_upto_region 49 with fail
                refine wp_named fun W hW => ?_
                obtain ⟨BX, hbW⟩ := blk1 (c1 := #[.int .i64 x.first, .slice xA K x.c, .bool true, .int .u8 1, .int .u8 3, .int .u8 i, .bool (decide (0 < K)), .bool false]) hW
                have rx := rq W hbW
                have HBW := Lib.hid (HB.out.trans (hbW.mono hz))
                have bx := BX.cell
                obtain ⟨gx, hgx⟩ : ∃ gx, wr.heap.size = gx := ⟨_, rfl⟩
                rw [hgx] at BX bx ⊢
                clear hW hgx r0 r1 r2 r3 r4 r5 r6 r7 rq hbW hz
                obtain ⟨pb, hpb⟩ : ∃ pb, decide (0 < K) = pb := ⟨_, rfl⟩
                have hpb' : decide ((0 : Int) < K) = pb := by rw [← hpb]; exact decide_eq_decide.2 (by omega)
                rw [hpb] at bx BX
                have HBX := Lib.hid BX
                clear BX
                go_quiet (fail)
                clear bx hpb hpb'
                have hbq := bel_drewN (Below.refl W.heap.size W) nq
                have bx := (HBX.out.below hbq).cell
                have HBQ := Lib.hid (HBW.out.trans (hbq.mono HBW.out.size))
                clear hbq HBX HBW rx
                generalize W.drewN nq = WQ at *
                go_wp2_with fail
                clear bx
                go_loopw [242] (fun jv wr => ∃ j : Nat, j ≤ K ∧ jv = .int .i64 j ∧ Below w7.heap.size w7 wr) (fun jv _ => K - (intOf jv).toNat)
                case atStart => exact ⟨0, Nat.zero_le _, rfl, HBQ.out⟩
                case round =>
                  obtain ⟨j, hj, rfl, hb⟩ := hrel
                  by_cases hjl : j < K
                  · have HJL := Lib.hid hjl
                    have hjI : (j : Int) < K := by omega
                    obtain ⟨t, ht⟩ : ∃ t, x.tabs[j]? = some t := ⟨_, List.getElem?_eq_getElem (by rw [HTL.out, HKK.out]; exact hjl)⟩
                    have hT := HTX.out wr hb
                    obtain ⟨g8, o8, rfl⟩ := hT.some_ (ne_nil_of_get (tcells_at ht))
                    have s0 := hT.rule (tcells_at ht) wr (Below.refl _ _)
                    obtain ⟨hte, hes⟩ := HTS.out j t ht
                    rw [hte] at s0
                    have HES := Lib.hid hes
                    have HTE := Lib.hid hte
                    have HET := Lib.hid (fun w' (h : Below w7.heap.size w7 w') => HEX.out w' j t h ht)
                    obtain ⟨tA, htA⟩ : ∃ tA, t.A = tA := ⟨_, rfl⟩
                    rw [htA] at s0 HET
                    have HB := Lib.hid hb
                    have hwN : IntKind.i64.wrap (N : Int) = N := IntWalk.i64_in _ (by omega)
                    have hwj : IntKind.u8.wrap (j : Int) = j := IntWalk.u8_in _ (by omega)
                    clear hT ht hte hes htA hb
                    go_wp2_with fail
                    go_loopw [254] (fun zv wr => ∃ z : Nat, z ≤ N ∧ zv = .int .i64 z ∧ Below w7.heap.size w7 wr) (fun zv _ => N - (intOf zv).toNat)
                    case atStart => exact ⟨0, Nat.zero_le _, rfl, HB.out⟩
                    case round =>
                      obtain ⟨z, hz, rfl, hb⟩ := hrel
                      by_cases hzl : z < N
                      · have HZL := Lib.hid hzl
                        have hzI : (z : Int) < N := by omega
                        obtain ⟨e, he⟩ : ∃ e, t.es[z]? = some e := ⟨_, List.getElem?_eq_getElem (by rw [HTE.out]; exact hzl)⟩
                        obtain rfl := HES.out z e he
                        have hE := HET.out wr hb
                        obtain ⟨g9, o9, rfl⟩ := hE.some_ (ne_nil_of_get (ecells_at he (j := 0) rfl))
                        have e0 := hE.rule (ecells_at he (j := 0) rfl) wr (Below.refl _ _)
                        have e1 := hE.rule (ecells_at he (j := 1) rfl) wr (Below.refl _ _)
                        have e2 := hE.rule (ecells_at he (j := 2) rfl) wr (Below.refl _ _)
                        rw [Nat.add_zero] at e0
                        rw [← Nat.add_assoc] at e1 e2
                        have hwp : IntKind.u32.wrap (pt + (z : Int)) = wr0 pt z := by rw [IntKind.wrap_u32]; rfl
                        have hw32 : IntKind.u32.wrap (z : Int) = z := by rw [IntKind.wrap_u32]; omega
                        have bz := (Blk.new wr 43 #[.int .u8 1, .int .u8 j, .int .u32 (wr0 pt z)]).cell
                        have HB2 := Lib.hid (hb.trans ((bl1 wr (.cells #[.int .u8 1, .int .u8 j, .int .u32 (wr0 pt z)] 43)).mono hb.size))
                        obtain ⟨WZ, hWZ⟩ : ∃ WZ, wr0 pt z = WZ := ⟨_, rfl⟩
                        rw [hWZ] at e2 hwp bz HB2
                        clear hE he hb hWZ
                        go_wp2_with fail
                        go_roundw
                        case rel => exact ⟨z + 1, HZL.out, by go_num, HB2.out⟩
                        case measure => simp [intOf]; omega
                      · obtain rfl : N = z := by omega
                        have HB2 := Lib.hid hb
                        clear hb
                        go_wp2_with fail
                        go_roundw
                        case rel => exact ⟨j + 1, HJL.out, by go_num, HB2.out⟩
                        case measure => simp [intOf]; omega
                  · obtain rfl : K = j := by omega
                    have HB2 := Lib.hid hb
                    clear hb
                    go_wp2_with fail
                    go_roundw
                    case rel => exact ⟨i + 1, HIL.out, by go_num, HB2.out⟩
                    case measure => simp [intOf]; omega
              · obtain rfl : m = i := by omega
                have HB2 := Lib.hid (HB7.out.trans (hb.mono HB7.out.size))
                clear hb
                go_wp2_with fail
                go_ret
                exact ⟨rfl, HB2.out⟩
end Go.Proofs.Ytjjifldgfihjgaa
