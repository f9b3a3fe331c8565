/- BoxTakes: the walk. -/
import Derived.Test.YtbmkfjgodgmjnaaC1
import Derived.Deep.QuietTactic
import Derived.BigQuiet
namespace Go.Proofs.Ytbmkfjgodgmjnaa
open Go.RowKit
set_option linter.unusedVariables false
set_option linter.unusedSimpArgs false
abbrev fl2 : List Flt := [⟨0, 0, true⟩, ⟨0, 0, false⟩]
theorem take_may (rx : List Fr) (tx : List Fr) (lost : Bool) (f : Fr) (hf : f.wf) : takeB ⟨fl2, tx, rx, lost⟩ f = f.may := by
  have h := lets_all f hf
  unfold takeB anyB
  rw [List.any_cons, List.any_cons]
  cases he : f.ext
  · rw [he] at h
    rw [h]
    cases f.may <;> simp
  · rw [he] at h
    rw [h]
    cases f.may <;> simp
/-- The box and the law's own row beside it. -/
structure TK (B : Nat) (q : Nat) (Φ : Who) (A : Option Addr) (c : Nat) (inn : List Fr) (lost : Bool) (w : World) : Prop where
  b : BX Φ B w q ⟨fl2, [], inn, lost⟩
  o : OwC Φ (0, 8) w B 26 11 A inn.length c (fcells inn)
  n : Nu Φ w
theorem TK.below {B q : Nat} {Φ : Who} {A : Option Addr} {c : Nat} {inn : List Fr} {lost : Bool} {w w' : World} (h : TK B q Φ A c inn lost w) (hb : Below w.heap.size w w') : TK B q Φ A c inn lost w' := ⟨h.b.below hb, h.o.below hb, h.n.below hb⟩
def TKE (B q : Nat) (W0 : World) (v lv : Value) (w : World) : Prop := ∃ Φ A c inn lost, v = .slice A inn.length c ∧ lv = .bool lost ∧ TK B q Φ A c inn lost w ∧ Below W0.heap.size W0 w
theorem OwC.cut1 {Φ : Who} {k : Nat × Nat} {w : World} {B g o n c : Nat} {x : Fr} {r : List Fr} (h : OwC Φ k w B 26 11 (some ⟨g, o, none⟩) n c (fcells (x :: r))) (hn : n = r.length + 1) :
    OwC Φ k w B 26 11 (if c = 1 then some ⟨g, o, none⟩ else some ⟨g, o + 11, none⟩) r.length (c - 1) (fcells r) := by
  have hcut := h.1.cut (k := 1) (by omega) (by decide)
  rw [← fcells_drop, List.drop_succ_cons, List.drop_zero, Option.map_some, Nat.one_mul] at hcut
  have e : (⟨g, o, none⟩ : Addr).add 11 = ⟨g, o + 11, none⟩ := by simp [Addr.add]
  rw [e, show n - 1 = r.length by omega] at hcut
  refine ⟨hcut, fun g' hg' => h.2 g' ?_⟩
  split at hg'
  · exact hg'
  · simpa [blkOf] using hg'
theorem eqb_self (f : Fr) : f.eqb f = true := by simp [Fr.eqb]
theorem Sq.no8 (q : Nat) : ¬ Sq q (0, 8) := fun h => by have := h.2; simp at this
set_option maxRecDepth 100000 in
set_option maxHeartbeats 3000000 in
theorem takes_any (A : Option Addr) (n c : Nat) (l : List Fr) (AT : Option Addr) (nt ct : Nat) (bs : List Bool) (w : World) (hx : l.length = n) (hn : n ≤ c) (hc : c ≤ maxLen) (hA : A = none → n = 0 ∧ c = 0) (hr : Rd w w.heap.size A (fcells l)) (hwf : ∀ x ∈ l, x.wf)
    (hbt : bs.length = nt) (hnt : nt ≤ maxLen) (hrt : Rd w w.heap.size AT (bs.map Value.bool)) :
    Calls Try.prog 5 #[.slice A n c, .slice AT nt ct] w fun e w' => e = .returned (.bool true) ∧ Below w.heap.size w w' := by
  unfold maxLen at hc hnt
  obtain ⟨N, hN⟩ : ∃ N, min n 30 = N := ⟨_, rfl⟩
  obtain ⟨ls, hls⟩ : ∃ ls, l.take N = ls := ⟨_, rfl⟩
  have hlN : ls.length = N := by rw [← hls, List.length_take]; omega
  have hwfs : ∀ x ∈ ls, x.wf := fun x hx => hwf x (List.mem_of_mem_take (by rw [hls]; exact hx))
  have hrs : Rd w w.heap.size A (fcells ls) := by rw [← hls, fcells_take]; exact hr.take _
  have hN30 : N ≤ 30 := by omega
  have HLN := Lib.hid hlN
  have HBT := Lib.hid hbt
  clear hx hr hls hlN hbt
  go_enter Try.func5, Try.ntmps5
  go_wp2_with fail
  refine (shown_any _).mono ?_
  rintro e w1 ⟨rfl, b1⟩
  have z1 := b1.size
  have N1 := Lib.hid (new_lit (Φ := fun _ => (0, 9)) (B := w.heap.size) (nu0 w1) z1 fl2 2 rfl (by decide) (by
    intro x hx
    simp at hx
    rcases hx with rfl | rfl <;> exact flt_wf _ _ _ (by decide) (by decide) (by decide) (by decide)))
  go_wp2_with fail
  refine N1.out.mono ?_
  rintro e w2 ⟨q, Φ2, rfl, hq, B2, x2⟩
  have x2 := Ext.trans (Ext.of_below (nu0 w1) (bl1 _ _)) x2
  have z2 := x2.size
  have k2 := b1.trans (x2.below z1)
  have HT2 : TK w.heap.size q Φ2 none 0 [] false w2 := ⟨B2, OwC.nil _ _ _ _ _ _, x2.nu⟩
  clear N1 B2 x2
  go_upto_region 7 with fail
  go_cut [32, 33, 34] (fun v nv iv wx => v = .slice A N c ∧ nv = .int .i64 N ∧ iv = .int .i64 0 ∧ wx = w2)
  case first =>
    by_cases h8 : n ≤ 30
    · obtain rfl : N = n := by omega
      have h8' : (N : Int) ≤ 30 := by omega
      have hcn : (N : Int) ≤ c := by omega
      cases A with
      | none =>
        obtain ⟨h1, rfl⟩ := hA rfl
        subst h1
        go_wp2_with fail
        go_meet
        case rel => exact ⟨rfl, rfl, rfl, rfl⟩
      | some ad =>
        go_wp2_with fail
        go_meet
        case rel => exact ⟨rfl, rfl, rfl, rfl⟩
    · have h8' : (30 : Int) < n := by omega
      obtain rfl : N = 30 := by omega
      have hcn : (30 : Int) ≤ c := by omega
      cases A with
      | none => have := (hA rfl).1; omega
      | some ad =>
        go_wp2_with fail
        go_meet
        case rel => exact ⟨rfl, rfl, rfl, rfl⟩
  case rest =>
    obtain ⟨rfl, rfl, rfl, rfl⟩ := hcut
    clear hN
    go_wp2_with fail
    go_loopw [8, 9, 34] (fun v lv iv wr => ∃ (k : Nat), k ≤ N ∧ iv = .int .i64 k ∧ TKE w.heap.size q w v lv wr) (fun _ _ iv _ => N - (intOf iv).toNat)
    case atStart => exact ⟨0, Nat.zero_le _, rfl, Φ2, none, 0, [], false, rfl, rfl, HT2, k2⟩
    case round =>
      obtain ⟨k, hk, rfl, Φ, AI, cI, inn, lost, rfl, rfl, HT, hbr⟩ := hrel
      have hzr := hbr.size
      clear HT2 k2
      obtain ⟨m, hm⟩ : ∃ m, inn.length = m := ⟨_, rfl⟩
      have hm4 : m ≤ 4 := by have := HT.b.2.1.r4; rw [← hm]; exact this
      have HM := Lib.hid hm
      have HIo : Hid (OwC Φ (0, 8) wr w.heap.size 26 11 AI m cI (fcells inn)) := Lib.hid (by rw [← hm]; exact HT.o)
      rw [hm]
      clear hm
      by_cases hlt : k < N
      · have hlt' : (k : Int) < N := by omega
        obtain ⟨f, ht⟩ : ∃ t, ls[k]? = some t := ⟨_, List.getElem?_eq_getElem (by rw [HLN.out]; exact hlt)⟩
        have hf := hwfs f (List.mem_of_getElem? ht)
        have hne : fcells ls ≠ [] := by intro h; have h2 := fcells_len ls; rw [h, HLN.out] at h2; simp at h2; omega
        obtain ⟨b, o, ea, hbl, hcl⟩ := hrs.below hbr hne
        have hc' : ∀ j u, f.cs[j]? = some u → wr.cell? ⟨b, o + (k * 11 + j), none⟩ = some u := fun j u hu => hcl _ _ (fcells_get ls k f ht j u hu)
        have r0 := hc' 0 _ rfl
        have r1 := hc' 1 _ rfl
        have r2 := hc' 2 _ rfl
        have r3 := hc' 3 _ rfl
        have r4 := hc' 4 _ rfl
        have r5 := hc' 5 _ rfl
        have r6 := hc' 6 _ rfl
        have r7 := hc' 7 _ rfl
        have r8 := hc' 8 _ rfl
        have r9 := hc' 9 _ rfl
        have r10 := hc' 10 _ rfl
        rw [Nat.add_zero] at r0
        rw [← Nat.add_assoc] at r1 r2 r3 r4 r5 r6 r7 r8 r9 r10
        clear hc' hcl ht
        subst ea
        have HTH := Lib.hid HT
        clear HT
        go_upto_region 10 with fail
        refine wp_named fun W hW => ?_
        obtain ⟨BW, hbW⟩ := blk1 (c1 := f.cs.toArray) hW
        clear hW r0 r1 r2 r3 r4 r5 r6 r7 r8 r9 r10
        have hzW := hbW.size
        have HTW := HTH.out.below hbW
        have FN : Φ wr.heap.size = (0, 9) := HTH.out.n _ (Nat.le_refl _)
        have hbrW := hbr.trans (hbW.mono hzr)
        have T := take_any (HTW.b.below (Below.refl _ _).drew) (by have := hzW; simp; omega) (HTW.n.below (Below.refl _ _).drew) f hf
        rw [take_may inn [] lost f hf] at T
        have MY := Lib.hid (fun w => refmay_any f w hf)
        obtain ⟨bm, hbm⟩ : ∃ bm, f.may = bm := ⟨_, rfl⟩
        rw [hbm] at T MY
        have HBM := Lib.hid hbm
        have T := Lib.hid T
        have hK : ∀ Φ5 w5, Ext w.heap.size (Sq q) Φ Φ5 W.drew w5 → Blk w5 wr.heap.size 26 f.cs.toArray := fun Φ5 w5 hx => BW.drew.ext hx (fun hh => by rw [FN] at hh; exact Sq.no9 q hh.2)
        have hmm : (bm != bm) = false := by simp
        have RL : ∀ w', Blk w' wr.heap.size 26 f.cs.toArray → ∀ i, w'.cell? ⟨wr.heap.size, i, none⟩ = f.cs.toArray[i]? := fun w' h => h.cell
        have HIW := Lib.hid (HIo.out.below hbW)
        clear hbm
        go_region_held (fun w' => Blk w' wr.heap.size 26 f.cs.toArray) (first | exact BW | exact BW.drew | exact (hK _ _ x5).below b6 | exact hK _ _ x5)
          (first
            | (go_at_call 16; (with_reducible refine T.out.mono ?_); rintro e w5 ⟨rfl, Φ5, B5, x5⟩)
            | (go_at_call 17; (with_reducible refine (MY.out _).mono ?_); rintro e w6 ⟨rfl, b6⟩))
        have BF6 : Blk w6 wr.heap.size 26 f.cs.toArray := (hK _ _ x5).below b6
        have F6 : BlC Φ5 (0, 9) w6 wr.heap.size 26 f.cs.toArray := ⟨BF6, (x5.1 _ BW.lt).trans FN⟩
        have B6 := B5.below b6
        have hn6 := x5.nu.below b6
        have O6 : OwC Φ5 (0, 8) w6 w.heap.size 26 11 AI m cI (fcells inn) := ((HIW.out.below (Below.refl _ _).drew).ext x5 (Sq.no8 q)).below b6
        have z5 := x5.size
        have z6 := b6.size
        have hb6 : Below w.heap.size w w6 := (hbrW.drew.trans (x5.below (by simp; omega))).trans (b6.mono (by simp at z5; omega))
        have hz6 := hb6.size
        have hcI := O6.1.2.2.1
        unfold maxLen at hcI
        clear hK RL T HIW HTW BW B5 x5 b6
        have bfc6 := BF6.cell
        have hm4' : (m : Int) ≤ 4 := by omega
        go_upto_region 12 with fail
        go_cut [51] (fun v wx => v = .bool (bm && decide (4 ≤ m)) ∧ Below w6.heap.size w6 wx)
        case first =>
          cases bm
          · go_wp2_with fail
            refine (MY.out _).mono ?_
            rintro e w7 ⟨rfl, b7⟩
            go_wp2_with fail
            go_meet
            case rel => exact ⟨rfl, b7⟩
          · by_cases hm4x : m < 4
            · have hmI : (m : Int) < 4 := by omega
              go_wp2_with fail
              refine (MY.out _).mono ?_
              rintro e w7 ⟨rfl, b7⟩
              go_wp2_with fail
              go_meet
              case rel => exact ⟨by rw [show decide (4 ≤ m) = false from decide_eq_false (by omega), show decide ((4 : Int) ≤ (m : Int)) = false from decide_eq_false (by omega)]; rfl, b7⟩
            · have hmI : (4 : Int) ≤ m := by omega
              go_wp2_with fail
              refine (MY.out _).mono ?_
              rintro e w7 ⟨rfl, b7⟩
              go_wp2_with fail
              go_meet
              case rel => exact ⟨by rw [show decide (4 ≤ m) = true from decide_eq_true (by omega)]; rfl, b7⟩
        case rest =>
          obtain ⟨rfl, b7⟩ := hcut
          have BF7 := BF6.below b7
          have bfc7 := BF7.cell
          have B7 := B6.below b7
          have O7 := O6.below b7
          have n7 := hn6.below b7
          have hb7 := hb6.trans (b7.mono hz6)
          have hz7 := hb7.size
          clear B6 O6 hn6 bfc6 BF6 F6
          generalize hwc : wc = w7 at *
          clear hwc
          obtain ⟨tv, htv⟩ : ∃ tv, (bm && decide (4 ≤ m)) = tv := ⟨_, rfl⟩
          rw [htv]
          have HTV := Lib.hid htv
          clear htv
          go_upto_if 51 with fail
          go_cut [8, 9] (fun v lv wx => TKE w.heap.size q w v lv wx)
          case first =>
            cases bm
            · obtain rfl : tv = false := HTV.out.symm
              have htx : takeX ⟨fl2, [], inn, lost⟩ f = ⟨fl2, [], inn, lost⟩ := by unfold takeX; rw [take_may inn [] lost f hf, HBM.out]; rfl
              rw [htx] at B7
              go_wp2_with fail
              refine (MY.out _).mono ?_
              rintro e w8 ⟨rfl, b8⟩
              go_wp2_with fail
              go_meet
              case rel => exact ⟨Φ5, AI, cI, inn, lost, by rw [HM.out], rfl, ⟨B7.below b8, by rw [HM.out]; exact O7.below b8, n7.below b8⟩, hb7.trans (b8.mono hz7)⟩
            · by_cases hm4x : m < 4
              · obtain rfl : tv = false := by rw [← HTV.out, show decide (4 ≤ m) = false from decide_eq_false (by omega)]; rfl
                have htx : takeX ⟨fl2, [], inn, lost⟩ f = ⟨fl2, [], inn ++ [f], lost⟩ := by unfold takeX; rw [take_may inn [] lost f hf, HBM.out, if_pos rfl, if_pos (by show inn.length < 4; rw [HM.out]; exact hm4x)]
                rw [htx] at B7
                have hKK : Hid (∀ w8 w9 A9 c9, Below w7.heap.size w7 w8 → Own w9 w.heap.size 26 11 A9 (m + 1) c9 (fcells inn ++ f.cs) → (w8.alloc (.cells f.cs.toArray 26)).grownBy w9 (blkOf AI) → (blkOf A9 = blkOf AI ∨ blkOf A9 = some (w8.alloc (.cells f.cs.toArray 26)).heap.size) → TKE w.heap.size q w (.slice A9 (m + 1) c9) (.bool lost) w9) := Lib.hid fun w8 w9 A9 c9 b8 x1 x2 x3 => by
                  have b8a := b8.trans ((bl1 w8 (.cells f.cs.toArray 26)).mono b8.size)
                  have Oa := O7.below b8a
                  have hx := ((Ext.refl (B := w.heap.size) (S := fun c => c = (0, 8)) (n7.below b8a)).grown (fun g hg => ⟨(Oa.1.lt hg).1, Oa.2 g hg⟩) x2).paint (A := A9) (k := (0, 8)) (fun g hg => ⟨(x1.lt hg).2, fun hlt => by
                    rcases x3 with e | e
                    · exact Oa.2 g (by rw [← e]; exact hg)
                    · rw [e] at hg
                      simp only [Option.some.injEq] at hg
                      omega⟩)
                  have hlen : (inn ++ [f]).length = m + 1 := by rw [List.length_append, HM.out]; rfl
                  refine ⟨_, A9, c9, inn ++ [f], lost, by rw [hlen], rfl, ⟨(B7.below b8a).ext hx (fun j hj hh => by simp at hh; omega) (by simp), ?_, hx.nu⟩, (hb7.trans (b8a.mono hz7)).trans (hx.below (Nat.le_trans hz7 b8a.size))⟩
                  rw [hlen, fcells_app]
                  simp only [fcells, List.append_nil]
                  exact OwC.paint_self x1
                have O7H := Lib.hid O7
                clear B7 O7
                go_wp2_with fail
                refine (MY.out _).mono ?_
                rintro e w8 ⟨rfl, b8⟩
                have bfc8 := (BF7.below b8).cell
                have z8 := b8.size
                have O8 := O7H.out.1.below b8
                go_wp2_with (at_builtin; refine wpList_app _ rfl (.tmp 54) (.tmp 56) 36 rfl w.heap.size 26 z26 11 24 Try.underlying36 info26 rfl (by decide) AI m cI _ rfl (O8.alloc (.cells f.cs.toArray 26)) _ _ 1 1 f.cs rfl rfl ((Blk.new w8 26 f.cs.toArray).rd) (fr_one f) (by unfold maxLen; omega) (by omega) (by simp; omega) ?_; intro A9 c9 w9 ho9 hg9 hbk9)
                go_meet
                case rel => exact hKK.out w8 w9 A9 c9 b8 ho9 hg9 hbk9
              · obtain rfl : tv = true := by rw [← HTV.out, show decide (4 ≤ m) = true from decide_eq_true (by omega)]; rfl
                have htx : takeX ⟨fl2, [], inn, lost⟩ f = ⟨fl2, [], inn, true⟩ := by unfold takeX; rw [take_may inn [] lost f hf, HBM.out, if_pos rfl, if_neg (by show ¬ inn.length < 4; rw [HM.out]; exact hm4x)]
                rw [htx] at B7
                go_wp2_with fail
                go_meet
                case rel => exact ⟨Φ5, AI, cI, inn, true, by rw [HM.out], rfl, ⟨B7, by rw [HM.out]; exact O7, n7⟩, hb7⟩
          case rest =>
            obtain ⟨Φ8, A8, c8, inn8, lost8, rfl, rfl, HT8, hb8⟩ := hcut
            have hz8 := hb8.size
            clear B7 O7 n7 hb7 hz7 BF7 bfc7 b7
            have FINX : Hid (∀ Φ A c inn lost (v lv : Value) W, v = .slice A inn.length c → lv = .bool lost → TK w.heap.size q Φ A c inn lost W → Below w.heap.size w W → ∃ k' : Nat, k' ≤ N ∧ Value.int .i64 ((k + 1 : Nat) : Int) = .int .i64 k' ∧ TKE w.heap.size q w v lv W) := Lib.hid fun Φ A c inn lost v lv W e1 e2 h1 h2 => ⟨k + 1, by omega, rfl, Φ, A, c, inn, lost, e1, e2, h1, h2⟩
            have HT8H := Lib.hid HT8
            obtain ⟨m8, hm8⟩ : ∃ m8, inn8.length = m8 := ⟨_, rfl⟩
            have HM8 := Lib.hid hm8
            rw [hm8]
            clear hm8 HT8
            by_cases hkt : k < nt
            · have hkt' : (k : Int) < nt := by omega
              obtain ⟨tb, htb⟩ : ∃ tb, bs[k]? = some tb := ⟨_, List.getElem?_eq_getElem (by rw [HBT.out]; exact hkt)⟩
              obtain ⟨b2, o2, eb, -, hcb⟩ := hrt.below hb8 (by intro h; have h2 : bs = [] := (by simpa using h); rw [h2] at htb; simp at htb)
              have hbk := hcb k (.bool tb) (by rw [List.getElem?_map, htb]; rfl)
              clear hcb htb
              subst eb
              cases tb
              · go_wp2_with fail
                go_roundw
                case rel => exact FINX.out Φ8 A8 c8 inn8 lost8 _ _ _ (by rw [HM8.out]) rfl HT8H.out hb8
                case measure => simp [intOf]; omega
              · cases hi8 : inn8 with
                | nil =>
                  obtain rfl : m8 = 0 := by rw [← HM8.out, hi8]; rfl
                  have HB8 : BX Φ8 w.heap.size wc q ⟨fl2, [], inn8, lost8⟩ := HT8H.out.b
                  have R := Lib.hid (recv_no HB8 hi8)
                  have HI8 := Lib.hid hi8
                  clear hi8 HB8
                  go_wp2_with fail
                  refine R.out.mono ?_
                  rintro e w9 ⟨rfl, b9⟩
                  have hb9 := hb8.trans (b9.mono hz8)
                  have b9' := b9.trans ((bl1 w9 (.cells Fr.none_.cs.toArray 26)).mono b9.size)
                  go_wp2_with fail
                  go_quiet (fail)
                  go_wp2_with fail
                  go_roundw
                  case rel => exact FINX.out Φ8 A8 c8 inn8 lost8 _ _ _ (by rw [HM8.out]) rfl (HT8H.out.below (b9'.trans ((bel_drewN (Below.refl _ _) nq).mono b9'.size))) (hb8.trans ((b9'.trans ((bel_drewN (Below.refl _ _) nq).mono b9'.size)).mono hz8))
                  case measure => simp [intOf]; omega
                | cons x r =>
                  have HB8 : BX Φ8 w.heap.size wc q ⟨fl2, [], inn8, lost8⟩ := HT8H.out.b
                  have R := Lib.hid (recv_yes HB8 HT8H.out.n hi8)
                  subst hi8
                  obtain ⟨g3, o3, hA8⟩ := HT8H.out.o.1.at_ (by simp)
                  subst hA8
                  have hm81 : m8 = r.length + 1 := by rw [← HM8.out]; rfl
                  have H81 := Lib.hid hm81
                  have hm8p : 0 < m8 := by omega
                  have hm8I : (0 : Int) < m8 := by omega
                  have hm8J : (1 : Int) ≤ m8 := by omega
                  have hx1 := HT8H.out.o.1.2.1
                  have hx2 := HT8H.out.o.1.2.2.1
                  rw [HM8.out] at hx1
                  unfold maxLen at hx2
                  have hc8 : (1 : Int) ≤ c8 := by omega
                  have heq := fun w' => eq26_any x x w'
                  rw [eqb_self] at heq
                  clear hm81 HB8
                  go_wp2_with fail
                  refine R.out.mono ?_
                  rintro e w9 ⟨rfl, Φ9, B9, x9⟩
                  have O9 := HT8H.out.o.ext x9 (Sq.no8 q)
                  have hb9 := hb8.trans (x9.below hz8)
                  have n9 := x9.nu
                  clear R x9
                  go_upto_region 18 with fail
                  refine wp_named fun W hW => ?_
                  obtain ⟨BW, hbW⟩ := blk1 (c1 := x.cs.toArray) hW
                  clear hW
                  have bw := BW.cell
                  have OW := O9.below hbW
                  have hcl : ∀ j u, x.cs[j]? = some u → W.cell? ⟨g3, o3 + j, none⟩ = some u := fun j u hu => by
                    have := fcells_get (x :: r) 0 x rfl j u hu
                    rw [Nat.zero_mul, Nat.zero_add] at this
                    exact OW.1.cells j u this
                  have d0 := hcl 0 _ rfl
                  have d1 := hcl 1 _ rfl
                  have d2 := hcl 2 _ rfl
                  have d3 := hcl 3 _ rfl
                  have d4 := hcl 4 _ rfl
                  have d5 := hcl 5 _ rfl
                  have d6 := hcl 6 _ rfl
                  have d7 := hcl 7 _ rfl
                  have d8 := hcl 8 _ rfl
                  have d9 := hcl 9 _ rfl
                  have d10 := hcl 10 _ rfl
                  rw [Nat.add_zero] at d0
                  have OC := Lib.hid (OW.cut1 (by rfl))
                  have hbW9 := hb9.trans (hbW.mono hb9.size)
                  have BQW := B9.below hbW
                  have nW := n9.below hbW
                  clear hcl OW O9 B9
                  go_quiet (fail)
                  have bq := bel_drewN (Below.refl W.heap.size W) nq
                  by_cases hc1 : c8 = 1
                  · subst hc1
                    obtain rfl : m8 = 1 := by omega
                    go_wp2_with fail
                    go_roundw
                    case rel => exact FINX.out Φ9 (some ⟨g3, o3, none⟩) 0 r lost8 _ _ _ (by have := H81.out; rw [show r.length = 0 by omega]) rfl (TK.below ⟨BQW, OC.out, nW⟩ bq) (hbW9.trans (bq.mono hbW9.size))
                    case measure => simp [intOf]; omega
                  · have hc2 : (1 : Int) < c8 := by omega
                    go_wp2_with fail
                    go_roundw
                    case rel =>
                      have hO := OC.out
                      rw [if_neg hc1] at hO
                      exact FINX.out Φ9 (some ⟨g3, o3 + 11, none⟩) (c8 - 1) r lost8 _ _ _ (by have := H81.out; rw [show r.length = m8 - 1 by omega]) rfl (TK.below ⟨BQW, hO, nW⟩ bq) (hbW9.trans (bq.mono hbW9.size))
                    case measure => simp [intOf]; omega
            · have hkt' : (nt : Int) ≤ k := by omega
              go_wp2_with fail
              go_roundw
              case rel => exact FINX.out Φ8 A8 c8 inn8 lost8 _ _ _ (by rw [HM8.out]) rfl HT8H.out hb8
              case measure => simp [intOf]; omega
      · obtain rfl : k = N := by omega
        have V1 := Lib.hid (over_any HT.b HT.n)
        clear HIo
        go_wp2_with fail
        refine V1.out.mono ?_
        rintro e w3 ⟨rfl, Φ3, B3, x3⟩
        have hll : (lost == lost) = true := by simp
        have V2 := Lib.hid (over_any B3 x3.nu)
        have hb3 := hbr.trans (x3.below hzr)
        clear V1 HT
        go_wp2_with fail
        refine V2.out.mono ?_
        rintro e w4 ⟨rfl, Φ4, -, x4⟩
        go_wp2_with fail
        go_ret
        exact ⟨rfl, hb3.trans (x4.below hb3.size)⟩
end Go.Proofs.Ytbmkfjgodgmjnaa
