/- QueueWhole: the walk. -/
import Derived.Test.YtchneedpgpocnaaQW
import Derived.Deep.RegionHeldLaw
import Derived.Deep.QuietTactic
import Derived.BigQuiet
import Derived.Deep.CutBlock
namespace Go.Proofs.Ytchneedpgpocnaa
open Go.RowKit
set_option linter.unusedVariables false
set_option linter.unusedSimpArgs false
theorem calls_named {P : Program} {f : Nat} {args : Array Value} {w : World} {R : Ending → World → Prop} (h : ∀ W, W = w → Calls P f args W R) : Calls P f args w R := h w rfl
theorem bel_grown' {w0 w w' : World} {B : Nat} {A : Option Addr} {e : TypeId} {size n c : Nat} {xs : List Value} (h : Below B w0 w) (hB : B ≤ w.heap.size) (ho : Own w B e size A n c xs) (hg : w.grownBy w' (blkOf A)) : Below B w0 w' :=
  h.grown hg hB (fun k hk => (ho.lt hk).1)
theorem bl1 (W : World) (o : Obj) : Below W.heap.size W (W.alloc o) := (Below.refl _ _).alloc (Nat.le_refl _) _
theorem bl1d (W : World) (o : Obj) : Below W.heap.size W (W.alloc o).drew := (bl1 W o).drew
theorem Blk.rd {w : World} {g : Nat} {t : TypeId} {cs : List Value} (h : Blk w g t cs.toArray) : Rd w w.heap.size (some ⟨g, 0, none⟩) cs := fun _ => ⟨g, 0, rfl, h.lt, fun i u hu => by rw [h.cell, Nat.zero_add]; simpa using hu⟩
theorem blk3 {w W : World} {c1 c2 c3 : Array Value} {t1 t2 t3 : TypeId} (h : W = ((w.alloc (.cells c1 t1)).alloc (.cells c2 t2)).alloc (.cells c3 t3)) : Blk W (w.heap.size + 1) t2 c2 ∧ Blk W (w.heap.size + 1 + 1) t3 c3 ∧ Below w.heap.size w W := by
  subst h
  have h1 := (Blk.new (w.alloc (.cells c1 t1)) t2 c2).alloc (.cells c3 t3)
  have h2 := Blk.new ((w.alloc (.cells c1 t1)).alloc (.cells c2 t2)) t3 c3
  simp only [World.size_alloc] at h1 h2
  exact ⟨h1, h2, ((bl1 w _).alloc (by simp) _).alloc (by simp; omega) _⟩
set_option maxRecDepth 100000 in
set_option maxHeartbeats 8000000 in
theorem whole_any (most : Int) (A : Option Addr) (n c : Nat) (xs : List Int) (B : Option Addr) (m d : Nat) (ys : List Int) (w : World) (hm0 : 0 ≤ most) (hm1 : most < 256)
    (hx : xs.length = n) (hn : n ≤ c) (hc : c ≤ maxLen) (hr : Rd w w.heap.size A (u8s xs)) (hA : A = none → n = 0 ∧ c = 0) (hu : ∀ x ∈ xs, 0 ≤ x ∧ x < 256)
    (hy : ys.length = m) (hm : m ≤ d) (hd : d ≤ maxLen) (hr2 : Rd w w.heap.size B (u8s ys)) (hB : B = none → m = 0 ∧ d = 0) (hu2 : ∀ x ∈ ys, 0 ≤ x ∧ x < 256) :
    Calls Try.prog 3 #[.int .u8 most, .slice A n c, .slice B m d] w fun e w' => e = .returned (.bool true) ∧ Below w.heap.size w w' := by
  unfold maxLen at hc hd
  obtain ⟨N, hN⟩ : ∃ N, min n 40 = N := ⟨_, rfl⟩
  have e40 : min (n : Int) 40 = (N : Int) := by omega
  have hNn : N ≤ n := by omega
  have hN40 : N ≤ 40 := by omega
  have hNc : N ≤ c := by omega
  obtain ⟨T, hT⟩ : ∃ T : Int, most % 64 + 1 = T := ⟨_, rfl⟩
  have hT1 : 1 ≤ T := by omega
  have hT2 : T ≤ 64 := by omega
  have C := Lib.hid (fun W => new_QX T W hT1 hT2)
  have HX := Lib.hid hx
  have HY := Lib.hid hy
  clear hx hy hN
  go_enter Try.func3, Try.ntmps3
  go_wp2_with fail
  refine (shown_any _).mono ?_
  rintro e w1 ⟨rfl, b1⟩
  have z1 := b1.size
  go_wp2_with fail
  refine (C.out _).mono ?_
  rintro e w2 ⟨q, rfl, hq, Q2, b2⟩
  have b2' := b1.trans (b2.mono z1)
  have z2 := b2.size
  have hqlt := Q2.lt.1
  go_upto_region 7 with fail
  refine wp_named fun W hW => ?_
  obtain ⟨BL, hbW⟩ := blk1 hW
  clear hW
  go_cut [44, 45, 46] (fun s l i wx => s = .slice A N c ∧ l = .int .i64 N ∧ i = .int .i64 0 ∧ wx = W)
  case first =>
    by_cases h40 : n ≤ 40
    · obtain rfl : N = n := by omega
      go_wp2_with fail
      go_meet
      case rel => exact ⟨rfl, rfl, rfl, rfl⟩
    · have h40' : 40 < n := by omega
      obtain rfl : N = 40 := by omega
      go_wp2_with fail
      go_meet
      case rel => exact ⟨rfl, rfl, rfl, rfl⟩
  case rest =>
    obtain ⟨rfl, rfl, rfl, rfl⟩ := hcut
    clear e40
    have b3 := b2'.trans (hbW.mono (by omega))
    have hWW : WW w.heap.size w2.heap.size q T [] [false, false] none 0 0 none [] wc := ⟨Q2.below hbW, Own.nil _ _ _ _, ItOk.nil _ _, rfl, BL, (fun g h => by cases h), (fun g h => by cases h), by omega, by omega, rfl⟩
    clear BL hbW Q2 b2 b2' b1 C
    have HC := Lib.hid hNc
    go_wp2_with fail
    go_loopw [10, 46] (fun v i wr => ∃ (k : Nat) (ks : List Key) (ls : List Bool) (Aw : Option Addr) (nw cw : Nat) (r : Option Nat) (ws : List It), k ≤ N ∧ i = .int .i64 k ∧ v = .slice Aw nw cw ∧ (nw : Int) ≤ T ∧ WW w.heap.size w2.heap.size q T ks ls Aw nw cw r ws wr ∧ Below w.heap.size w wr) (fun _ i _ => N - (intOf i).toNat)
    case atStart => exact ⟨0, [], [false, false], none, 0, 0, none, [], Nat.zero_le _, rfl, rfl, by simp; omega, hWW, b3⟩
    case round =>
      obtain ⟨k, ks, ls, Aw, nw, cw, r, ws, hk, rfl, rfl, hnT, hQ, hbr⟩ := hrel
      have hzr := hbr.size
      clear hWW b3
      by_cases hlt : k < N
      · have hlt' : (k : Int) < N := by omega
        have hltn : k < n := by omega
        obtain ⟨x, hx⟩ : ∃ x, xs[k]? = some x := ⟨_, List.getElem?_eq_getElem (by rw [HX.out]; exact hltn)⟩
        obtain ⟨hx0, hx1⟩ := hu x (List.mem_of_getElem? hx)
        obtain ⟨b, o, rfl, hbw, hcell⟩ := hr (by intro h; have := HX.out; simp at h; subst h; simp at this; omega)
        have cx := hcell k _ (by rw [List.getElem?_map, hx]; rfl)
        have cx : wr.cell? ⟨b, o + k, none⟩ = some (.int .u8 x) := (hbr.cell (p := ⟨b, o + k, none⟩) hbw).trans cx
        clear hcell hx
        go_upto_block 2 with fail
        go_cut [10] (fun v wx => ∃ (ks : List Key) (Aw : Option Addr) (nw cw : Nat) (r : Option Nat) (ws : List It), v = .slice Aw nw cw ∧ (nw : Int) ≤ T ∧ WW w.heap.size w2.heap.size q T ks ls Aw nw cw r ws wx ∧ Below w.heap.size w wx)
        case first =>
          go_wp2_with fail
          go_loopw [10, 14] (fun v j wx => ∃ (kk : Nat) (ks : List Key) (Aw : Option Addr) (nw cw : Nat) (r : Option Nat) (ws : List It), kk ≤ 8 ∧ j = .int .u8 kk ∧ v = .slice Aw nw cw ∧ (nw : Int) ≤ T ∧ WW w.heap.size w2.heap.size q T ks ls Aw nw cw r ws wx ∧ Below w.heap.size w wx) (fun _ j _ => 8 - (intOf j).toNat)
          case atStart => exact ⟨0, ks, Aw, nw, cw, r, ws, by omega, rfl, rfl, hnT, hQ, hbr⟩
          case round =>
            rename World => wx
            clear hQ hnT
            obtain ⟨kk, ks, Aw, nw, cw, r, ws, hk8, rfl, rfl, hnT, hQ, hbx⟩ := hrel
            have hzx := hbx.size
            by_cases hkm : k < m
            · have hkm' : (k : Int) < m := by omega
              obtain ⟨y, hy⟩ : ∃ y, ys[k]? = some y := ⟨_, List.getElem?_eq_getElem (by rw [HY.out]; exact hkm)⟩
              obtain ⟨hy0, hy1⟩ := hu2 y (List.mem_of_getElem? hy)
              obtain ⟨b2, o2, rfl, hbw2, hcell⟩ := hr2 (by intro h; have := HY.out; simp at h; subst h; simp at this; omega)
              have cy := hcell k _ (by rw [List.getElem?_map, hy]; rfl)
              have cy : wx.cell? ⟨b2, o2 + k, none⟩ = some (.int .u8 y) := (hbx.cell (p := ⟨b2, o2 + k, none⟩) hbw2).trans cy
              clear hcell hy
              by_cases hkk : (kk : Int) < y % 8
              · cases ks with
                | nil =>
                  have NX := Lib.hid hQ.next0
                  have hl0 := hQ.len
                  obtain rfl : nw = 0 := by simpa using hl0.2.symm
                  go_wp2_with fail
                  refine NX.out.mono ?_
                  rintro e w5 ⟨rfl, hb5⟩
                  have hz5 := hb5.size
                  clear NX
                  go_wp2_with fail
                  go_quiet (fail)
                  go_wp2_with fail
                  go_roundw
                  case rel =>
                    have hb6 : Below wx.heap.size wx ((w5.alloc (.cells #[.int .u8 0, .int .u8 0, .slice none 0 0] 31)).drewN nq) := bel_drewN (hb5.alloc hz5 _) nq
                    exact ⟨kk + 1, [], Aw, 0, cw, r, ws, by omega, by go_num, rfl, hnT, hQ.below hb6, hbx.trans (hb6.mono hzx)⟩
                  case measure => simp [intOf]; omega
                | cons ky ks =>
                  have NX := Lib.hid (hQ.next (by omega))
                  have hl0 := hQ.len
                  have hnw : 1 ≤ nw := by have := hl0.2; simp at this; omega
                  have hcw := hQ.own.2.1
                  go_wp2_with fail
                  refine NX.out.mono ?_
                  rintro e w5 ⟨A5, n5, c5, X, dX, r5, ws5, rfl, hn5, ho5, hrw, hrx, hQ5, hb5⟩
                  have hz5 := hb5.size
                  obtain ⟨x1, x2, x3⟩ := ky
                  dsimp only at hn5 ho5 hrw hrx
                  obtain ⟨gw, ow, rfl⟩ := hQ.own.at_ hnw
                  clear NX hQ
                  go_wp2_with fail
                  refine wp_named fun W hW => ?_
                  obtain ⟨BR, hbW⟩ := blk1 hW
                  clear hW
                  have hzW := hbW.size
                  have hpos : decide (0 < nw) = true := by simp; omega
                  have hnwI : (1 : Int) ≤ nw := by omega
                  have hcwI : (nw : Int) ≤ cw := by omega
                  have hcwJ : (1 : Int) ≤ cw := by omega
                  have hR := BR.rule
                  have SM := Lib.hid (same_one (c1 := 1) (c2 := cw) (xs := x3) (w := (W.alloc (.cells #[.int .u8 x1, .int .u8 x2, .slice A5 n5 c5] 31)).drew) ((Rd.new W [.int .u8 x1, .int .u8 x2, .slice A5 n5 c5] 31).drew.more (by simp)) ((((hrw.below hbW).more hzW).al _).drew.more (by simp)) hn5 ((((ho5.below hbW).rd).al _).drew.more (by simp)) ((((hrx.below hbW).more hzW).al _).drew.more (by simp)))
                  go_region_held (fun w' => Below W.heap.size W w') (first | exact Below.refl _ _ | exact (Below.refl _ _).drew | exact bl1 _ _ | exact bl1d _ _ | exact (Below.refl _ _).drew.alloc (Nat.le_refl _) _ | exact (bl1 _ _).trans (hb7.mono (by simp)) | exact (bl1d _ _).trans (hb7.mono (by simp)) | (trace_state; fail))
                    ((go_at_call 11; (with_reducible refine SM.out.mono ?_); rintro e w7 ⟨rfl, hb7⟩))
                  have hbE : Below W.heap.size W w7 := (bl1d _ _).trans (hb7.mono (by simp))
                  have hQE := (hQ5.below hbW).below hbE
                  have hb5E : Below w.heap.size w w7 := ((hbx.trans hb5).trans (hbW.mono (by omega))).trans (hbE.mono (by omega))
                  have hnT' : ((nw - 1 : Nat) : Int) ≤ T := by omega
                  have FIN : Hid (∀ (v i : Value), v = .slice (if cw = 1 then some ⟨gw, ow, none⟩ else some ⟨gw, ow + 3, none⟩) (nw - 1) (cw - 1) → i = .int .u8 ((kk + 1 : Nat) : Int) → ∃ (kk : Nat) (ks : List Key) (Aw : Option Addr) (nw cw : Nat) (r : Option Nat) (ws : List It), kk ≤ 8 ∧ i = .int .u8 kk ∧ v = .slice Aw nw cw ∧ (nw : Int) ≤ T ∧ WW w.heap.size w2.heap.size q T ks ls Aw nw cw r ws w7 ∧ Below w.heap.size w w7) := Lib.hid (fun v i e1 e2 => ⟨kk + 1, ks, _, _, _, r5, ws5, by omega, e2, e1, hnT', hQE, hb5E⟩)
                  clear hQE hb5E hbE hR SM hQ5
                  by_cases hcw1 : cw = 1
                  · subst hcw1
                    obtain rfl : nw = 1 := by omega
                    go_wp2_with fail
                    go_roundw
                    case rel => exact FIN.out _ _ (by simp) (by go_num)
                    case measure => simp [intOf]; omega
                  · go_wp2_with fail
                    go_roundw
                    case rel => exact FIN.out _ _ (by rw [if_neg hcw1]) (by go_num)
                    case measure => simp [intOf]; omega
              · go_wp2_with fail
                go_meet
                case rel => exact ⟨ks, Aw, nw, cw, r, ws, rfl, hnT, hQ, hbx⟩
            · have hkm' : (m : Int) ≤ k := by omega
              go_wp2_with fail
              go_meet
              case rel => exact ⟨ks, Aw, nw, cw, r, ws, rfl, hnT, hQ, hbx⟩
        case rest =>
          clear hQ hnT
          obtain ⟨ks, Aw, nw, cw, r, ws, rfl, hnT, hQ, hbx⟩ := hcut
          have hzc := hbx.size
          obtain ⟨j, hj⟩ : ∃ j : Nat, x / 4 % 2 = (j : Int) := ⟨(x / 4 % 2).toNat, by omega⟩
          obtain ⟨K, hK⟩ : ∃ K : Nat, x % 4 + 1 = (K : Int) := ⟨(x % 4 + 1).toNat, by omega⟩
          have hj2 : j < 2 := by omega
          have hK1 : 1 ≤ K := by omega
          have hK4 : K ≤ 4 := by omega
          have w8 : IntKind.u8.wrap (8 * (j : Int)) = 8 * (j : Int) := by rw [IntKind.wrap_u8]; omega
          have wk : IntKind.u8.wrap (k : Int) = (k : Int) := by rw [IntKind.wrap_u8]; omega
          go_wp2_with fail
          go_loopw [18, 97] (fun v i wx => ∃ (kk : Nat) (Al : Option Addr) (cl : Nat) (its : List It), kk ≤ K ∧ i = .int .u8 kk ∧ v = .slice Al kk cl ∧ its.length = kk ∧ its.map It.key = smpL k j kk ∧ Own wx wc.heap.size 31 3 Al kk cl (cellsL its) ∧ ItOk wx wc.heap.size its ∧ Below wc.heap.size wc wx) (fun _ i _ => K - (intOf i).toNat)
          case atStart => exact ⟨0, none, 0, [], Nat.zero_le _, rfl, rfl, rfl, rfl, Own.nil _ _ _ _, ItOk.nil _ _, Below.refl _ _⟩
          case round =>
            rename World => wx
            obtain ⟨kk, Al, cl, its, hkK, rfl, rfl, hil, hik, ho, hit, hb3⟩ := hrel
            have zx := hb3.size
            have HIL := Lib.hid hil
            have HIK := Lib.hid hik
            clear hil hik
            by_cases hkk : kk < K
            · have hkk' : (kk : Int) < K := by omega
              have HB := (Own.made (e := 5) (size := 1) wx zx #[.int .u8 k, .int .u8 kk] 2 2 (by decide) (by decide) rfl).alloc (.cells #[.int .u8 4, .int .u8 (8 * (j : Int) + kk), .slice (some ⟨wx.heap.size, 0, none⟩) 2 2] 31)
              have hit2 : ItOk ((wx.alloc (.cells #[.int .u8 k, .int .u8 kk] 5)).alloc (.cells #[.int .u8 4, .int .u8 (8 * (j : Int) + kk), .slice (some ⟨wx.heap.size, 0, none⟩) 2 2] 31)) wc.heap.size (its ++ [⟨4, 8 * (j : Int) + kk, some ⟨wx.heap.size, 0, none⟩, 2, 2, [(k : Int), (kk : Int)]⟩]) := fun t ht => by
                rcases List.mem_append.1 ht with h | h
                · exact (hit.below (((Below.refl _ _).alloc (Nat.le_refl _) _).alloc (by simp) _)) t h
                · simp at h; subst h; exact ⟨rfl, Nat.le_of_ble_eq_true rfl, HB⟩
              have ho2 := (ho.alloc (.cells #[.int .u8 k, .int .u8 kk] 5)).alloc (.cells #[.int .u8 4, .int .u8 (8 * (j : Int) + kk), .slice (some ⟨wx.heap.size, 0, none⟩) 2 2] 31)
              have hrd := Rd.new (wx.alloc (.cells #[.int .u8 k, .int .u8 kk] 5)) [.int .u8 4, .int .u8 (8 * (j : Int) + kk), .slice (some ⟨wx.heap.size, 0, none⟩) 2 2] 31
              have hb2 := (hb3.alloc zx (.cells #[.int .u8 k, .int .u8 kk] 5)).alloc (by simp; omega) (.cells #[.int .u8 4, .int .u8 (8 * (j : Int) + kk), .slice (some ⟨wx.heap.size, 0, none⟩) 2 2] 31)
              simp only [World.size_alloc] at hrd
              go_wp2_with (at_builtin; refine wpList_app _ rfl (.tmp 100) (.tmp 111) 28 rfl wc.heap.size 31 (.agg #[.int .u8 0, .int .u8 0, .slice none 0 0]) 3 32 Try.underlying28 info31 rfl (by decide) Al kk cl _ rfl ho2 _ _ 1 1 _ rfl rfl hrd (three_one _ _ _ _ _) (by unfold maxLen; omega) (by omega) (by simp; omega) ?_; intro A' c' w' ho3 hg hbk)
              refine ⟨⟨_, _, _, ⟨kk + 1, by omega, by go_num, A', c', rfl, its ++ [⟨4, 8 * (j : Int) + kk, some ⟨wx.heap.size, 0, none⟩, 2, 2, [(k : Int), (kk : Int)]⟩], by rw [List.length_append, HIL.out]; rfl, ?_, ?_, ?_, ?_⟩, rfl, rfl, rfl⟩, by simp [intOf]; omega⟩
              · rw [List.map_append, HIK.out, ← smpL_succ]; rfl
              · rw [cellsL_app]; exact ho3
              · intro t ht
                obtain ⟨h1, h2, h3⟩ := hit2 t ht
                exact ⟨h1, h2, h3.grown hg (own_own_ne h3 ho2 (by decide))⟩
              · exact bel_app hb2 ho2 (Nat.le_refl _) hg
            · obtain rfl : kk = K := by omega
              have hcd : ∀ t ∈ its, 0 ≤ t.code ∧ t.code < 64 := fun t ht => by
                have hk2 : t.key ∈ its.map It.key := List.mem_map_of_mem ht
                rw [HIK.out] at hk2
                obtain ⟨i, hi, he⟩ := List.mem_map.1 hk2
                simp only [List.mem_range] at hi
                simp only [smp, It.key, Prod.mk.injEq] at he
                omega
              by_cases hfit : (nw : Int) + kk ≤ T
              · have P := Lib.hid (hQ.put hb3 j hj2 ho hit (by omega) (by omega) (by omega) hcd true (by simpa using hfit))
                have HCD := Lib.hid hcd
                clear hcd
                go_wp2_with fail
                refine P.out.mono ?_
                rintro e w4 ⟨rfl, ⟨r2, hM⟩, hb4⟩
                simp only [if_true, Bool.not_true] at hM
                have bL := hM.blk.frozen
                obtain ⟨lj, hlj⟩ : ∃ lj, ls[j]? = some lj := ⟨_, List.getElem?_eq_getElem (by rw [hM.two]; exact hj2)⟩
                have cL : w4.cell? ⟨w2.heap.size, j, none⟩ = some (.bool lj) := (hM.blk.cell j).trans (by simp [hlj])
                have hgd : ls.getD j false = lj := by rw [List.getD_eq_getElem?_getD, hlj]; rfl
                rw [hgd] at hM
                have hbE := (hbx.trans (hb3.mono hzc)).trans hb4
                have hgL := hM.hg
                have hzE := hbE.size
                obtain ⟨gl, ol, rfl⟩ := hM.ownL.at_ (by omega)
                have hgl := (hM.ownL.lt (g := gl) rfl).1
                obtain ⟨t, its', rfl⟩ : ∃ t its', its = t :: its' := by
                  cases its with
                  | nil => have := HIL.out; simp at this; omega
                  | cons t r => exact ⟨t, r, rfl⟩
                have ct : w4.cell? ⟨gl, ol + 1, none⟩ = some (.int .u8 t.code) := hM.ownL.cells 1 _ rfl
                have ft := hM.ownL.frozen
                obtain ⟨ht0, ht1⟩ := HCD.out t (by simp)
                have hkk0 : 0 < kk := by omega
                have FIN : Hid (∀ (A' : Option Addr) (c' : Nat) (W : World) (its2 : List It), WW w.heap.size w2.heap.size q T (ks ++ bumpK lj ((t :: its').map It.key)) (ls.set j false) A' (nw + kk) c' r2 (ws ++ its2) W → Below w.heap.size w W → ∀ (v i : Value), v = .slice A' (nw + kk) c' → i = .int .i64 ((k + 1 : Nat) : Int) → ∃ (k : Nat) (ks : List Key) (ls : List Bool) (Aw : Option Addr) (nw cw : Nat) (r : Option Nat) (ws : List It), k ≤ N ∧ i = .int .i64 k ∧ v = .slice Aw nw cw ∧ (nw : Int) ≤ T ∧ WW w.heap.size w2.heap.size q T ks ls Aw nw cw r ws W ∧ Below w.heap.size w W) := Lib.hid (fun A' c' W its2 x1 x2 v i e1 e2 => ⟨k + 1, _, _, A', nw + kk, c', r2, ws ++ its2, by omega, e2, e1, by omega, x1, x2⟩)
                have hgq : gl ≠ w2.heap.size := hM.ownL.ne_blk (g := gl) rfl hM.blk (by decide)
                have hqg : w2.heap.size ≠ gl := fun e => hgq e.symm
                clear hlj hgd P
                cases lj with
                | false =>
                  have hM2 := hM.lost_ j false
                  have hb5 := Below.setCell hbE (p := ⟨w2.heap.size, j, none⟩) hgL (.bool false)
                  have hlL : (cellsL (t :: its')).length = kk * 3 := hM2.ownL.1
                  go_wp2_with (at_builtin; refine wpList_app _ rfl (.tmp 146) (.tmp 147) 28 rfl w.heap.size 31 (.agg #[.int .u8 0, .int .u8 0, .slice none 0 0]) 3 32 Try.underlying28 info31 rfl (by decide) Aw nw cw _ rfl hM2.own _ _ kk cl _ rfl hlL hM2.ownL.rd (cellsL_one _) (by unfold maxLen; omega) (by omega) hb5.size ?_; intro A' c' w' ho3 hg hbk)
                  have hb6 : Below w.heap.size w w' := bel_grown' hb5 hb5.size hM2.own hg
                  have hW2 := hM2.app (ks' := ks ++ bumpK false ((t :: its').map It.key)) hg ho3 hbk rfl
                  have HW := Lib.hid hW2
                  clear hW2
                  go_wp2_with fail
                  go_roundw
                  case rel => exact FIN.out _ _ _ _ HW.out hb6 _ _ rfl (by go_num)
                  case measure => simp [intOf]; omega
                | true =>
                  have hM2 := (hM.bump (t.code + 64)).lost_ j false
                  have hb5 := Below.setCell (Below.setCell hbE (p := ⟨gl, ol + 1, none⟩) hgl (.int .u8 (t.code + 64))) (p := ⟨w2.heap.size, j, none⟩) hgL (.bool false)
                  have hlL : (cellsL ({ t with code := t.code + 64 } :: its')).length = kk * 3 := hM2.ownL.1
                  go_wp2_with (at_builtin; refine wpList_app _ rfl (.tmp 146) (.tmp 147) 28 rfl w.heap.size 31 (.agg #[.int .u8 0, .int .u8 0, .slice none 0 0]) 3 32 Try.underlying28 info31 rfl (by decide) Aw nw cw _ rfl hM2.own _ _ kk cl _ rfl hlL hM2.ownL.rd (cellsL_one _) (by unfold maxLen; omega) (by omega) hb5.size ?_; intro A' c' w' ho3 hg hbk)
                  have hb6 : Below w.heap.size w w' := bel_grown' hb5 hb5.size hM2.own hg
                  have hW2 := hM2.app (ks' := ks ++ bumpK true ((t :: its').map It.key)) hg ho3 hbk rfl
                  have HW := Lib.hid hW2
                  clear hW2
                  go_wp2_with fail
                  go_roundw
                  case rel => exact FIN.out _ _ _ _ HW.out hb6 _ _ rfl (by go_num)
                  case measure => simp [intOf]; omega
              · have hfit' : T < (nw : Int) + kk := by omega
                have P := Lib.hid (hQ.put hb3 j hj2 ho hit (by omega) (by omega) (by omega) hcd false (by simpa using hfit))
                clear hcd
                go_wp2_with fail
                refine P.out.mono ?_
                rintro e w4 ⟨rfl, ⟨r2, hM⟩, hb4⟩
                simp only [Bool.false_eq_true, if_false, Bool.not_false] at hM
                have hM2 := (hM.lost_ j true).to rfl
                have bL := hM.blk.frozen
                obtain ⟨lj, hlj⟩ : ∃ lj, ls[j]? = some lj := ⟨_, List.getElem?_eq_getElem (by rw [hM.two]; exact hj2)⟩
                have cL : w4.cell? ⟨w2.heap.size, j, none⟩ = some (.bool lj) := (hM.blk.cell j).trans (by simp [hlj])
                have hbE := (hbx.trans (hb3.mono hzc)).trans hb4
                have hgL := hM.hg
                have HE := Lib.hid (Below.setCell hbE (p := ⟨w2.heap.size, j, none⟩) hgL (.bool true))
                clear hlj
                go_wp2_with fail
                go_roundw
                case rel => exact ⟨k + 1, ks, _, Aw, nw, cw, r2, ws, by omega, by go_num, rfl, hnT, hM2, HE.out⟩
                case measure => simp [intOf]; omega
      · obtain rfl : k = N := by omega
        have hlen := hQ.len
        have HKs := Lib.hid hQ.key
        have hqw := hQ.hq
        go_wp2_with fail
        go_loopw [152] (fun i wx => ∃ (p : Nat) (r : Option Nat), p ≤ nw ∧ i = .int .i64 p ∧ QX wx q r ⟨T, ks.drop p, ls ++ [false, false]⟩ ∧ Own wx w.heap.size 31 3 Aw nw cw (cellsL ws) ∧ ItOk wx 0 ws ∧ Below w.heap.size w wx) (fun i _ => nw - (intOf i).toNat)
        case atStart => exact ⟨0, r, Nat.zero_le _, rfl, by simpa using hQ.qx, hQ.own, hQ.its, hbr⟩
        case round =>
          rename World => wx
          clear hQ
          obtain ⟨p, r, hp, rfl, hQ, ho, hit, hbx⟩ := hrel
          have hzx := hbx.size
          by_cases hpl : p < nw
          · have hpl' : (p : Int) < nw := by omega
            obtain ⟨t, ht⟩ : ∃ t, ws[p]? = some t := ⟨_, List.getElem?_eq_getElem (by rw [hlen.1]; exact hpl)⟩
            obtain ⟨g0, g1, g2⟩ := cellsL_get ws p t ht
            obtain ⟨gw, ow, rfl⟩ := ho.at_ (by omega)
            have r0 := ho.cells _ _ g0
            have r1 := ho.cells _ _ g1
            have r2 := ho.cells _ _ g2
            rw [← Nat.add_assoc] at r1 r2
            have hdrop : ks.drop p = (t.kind, t.code, t.b) :: ks.drop (p + 1) := by
              have hk : ks[p]? = some (t.kind, t.code, t.b) := by rw [← HKs.out, List.getElem?_map, ht]; rfl
              obtain ⟨hpk, e⟩ := List.getElem?_eq_some_iff.1 hk
              rw [List.drop_eq_getElem_cons hpk, e]
            rw [hdrop] at hQ
            obtain ⟨i1, i2, i3⟩ := hit t (List.mem_of_getElem? ht)
            have hkl : (ks.drop (p + 1)).length ≤ 999999 := by rw [List.length_drop]; omega
            clear ht g0 g1 g2 hdrop
            go_upto_region 38 with fail
            refine wp_named fun W hW => ?_
            obtain ⟨BX, hbW⟩ := blk1 hW
            clear hW
            have hzW := hbW.size
            have hQW := hQ.below hbW
            obtain ⟨cq, hcq⟩ := qx_cs hQW
            have NX := Lib.hid (hQW.next hkl)
            have hoW := ho.below hbW
            have hitW := hit.below hbW
            have i3W := i3.below hbW
            clear r0 r1 r2 hQ ho hit i3 hQW
            go_wp2_with fail
            refine NX.out.mono ?_
            rintro e w6 ⟨A6, n6, c6, rfl, hn6, ho6, hQ6, hc6⟩
            have BX6 := BX.chg hc6 (fun e => by have := blk_ty' BX (e ▸ hcq); cases this)
            have hz6 := hc6.size
            have ho6w := hoW.chg hc6 (fun g hg e => hoW.ne_blk hg hcq (by decide) e)
            have hit6 := hitW.chg hc6 (fun g hg _ => by subst hg; exact ⟨54, cq, hcq, by decide⟩)
            have i36 := i3W.chg hc6 (fun g hg e => i3W.ne_blk hg hcq (by decide) e)
            have hb6 : Below w.heap.size w w6 := (hbx.trans (hbW.mono hzx)).trans (hc6.below (fun i _ e => by omega) (by omega))
            obtain rfl : t.n = n6 := by omega
            have bx1 := fun o => (BX6.alloc o).cell
            have bx2 := fun o o' => ((BX6.alloc o).alloc o').cell
            have bx3 := BX6.lt
            clear NX BX hoW hitW i3W
            go_wp2_with fail
            refine calls_named fun W2 hW2 => ?_
            obtain ⟨BA, BB, hbW2⟩ := blk3 hW2
            have hzW2 := hbW2.size
            have SM := Lib.hid (same_one (c1 := 1) (c2 := 1) (xs := t.b) (w := W2) BA.rd BB.rd i1 (ho6.below hbW2).rd (i36.below hbW2).rd)
            clear hW2 bx1 bx2 BX6
            refine SM.out.mono ?_
            rintro e w7 ⟨rfl, hb7⟩
            have hb67 := hbW2.trans (hb7.mono hzW2)
            have HE := Lib.hid (hb6.trans (hb67.mono (by omega)))
            have hQ7 := hQ6.below hb67
            have ho7 := ho6w.below hb67
            have hit7 := hit6.below hb67
            go_wp2_with fail
            go_roundw
            case rel => exact ⟨p + 1, r, by omega, by go_num, hQ7, ho7, hit7, HE.out⟩
            case measure => simp [intOf]; omega
          · obtain rfl : p = nw := by omega
            have L := Lib.hid hQ.len
            have hd0 : (ks.drop p).length = 0 := by rw [List.length_drop]; omega
            rw [hd0] at L
            clear hd0
            go_wp2_with fail
            refine L.out.mono ?_
            rintro e w' ⟨rfl, rfl⟩
            go_wp2_with fail
            go_ret
            exact ⟨rfl, hbx⟩
end Go.Proofs.Ytchneedpgpocnaa
