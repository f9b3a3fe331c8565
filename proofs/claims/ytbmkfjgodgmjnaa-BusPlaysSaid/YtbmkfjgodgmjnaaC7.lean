/- BoxSends: the walk. -/
import Derived.Test.YtbmkfjgodgmjnaaC5
import Derived.Test.YtbmkfjgodgmjnaaC6
import Derived.Test.YtbmkfjgodgmjnaaC2
import Derived.Deep.RegionHeldLaw
namespace Go.Proofs.Ytbmkfjgodgmjnaa
open Go.RowKit
set_option linter.unusedVariables false
set_option linter.unusedSimpArgs false
/-- The box and the law's own row beside it. -/
structure SK (B q : Nat) (Φ : Who) (A : Option Addr) (c : Nat) (inn : List Fr) (w : World) : Prop where
  b : BX Φ B w q ⟨[], sent inn, [], false⟩
  o : OwC Φ (0, 8) w B 26 11 A inn.length c (fcells inn)
  n : Nu Φ w
  f : ∀ x ∈ inn, x.wf
theorem SK.below {B q : Nat} {Φ : Who} {A : Option Addr} {c : Nat} {inn : List Fr} {w w' : World} (h : SK B q Φ A c inn w) (hb : Below w.heap.size w w') : SK B q Φ A c inn w' := ⟨h.b.below hb, h.o.below hb, h.n.below hb, h.f⟩
theorem SK.le {B q : Nat} {Φ : Who} {A : Option Addr} {c : Nat} {inn : List Fr} {w : World} (h : SK B q Φ A c inn w) : inn.length ≤ 3 := by
  have := h.b.2.1.t3
  rw [sent_length] at this
  exact this
def SKE (B q : Nat) (W0 : World) (v : Value) (w : World) : Prop := ∃ Φ A c inn, v = .slice A inn.length c ∧ SK B q Φ A c inn w ∧ Below W0.heap.size W0 w
def SKN (B q : Nat) (W0 : World) (v nv : Value) (w : World) : Prop := ∃ Φ A c inn, v = .slice A inn.length c ∧ nv = .int .i64 inn.length ∧ SK B q Φ A c inn w ∧ Below W0.heap.size W0 w
/-- A frame of the row, in every world that has come by growth. -/
theorem row_rule {W : World} {B g o n c : Nat} {l : List Fr} (h : Own W B 26 11 (some ⟨g, o, none⟩) n c (fcells l)) (k : Nat) (f : Fr) (hk : l[k]? = some f) : ∀ j u, f.cs[j]? = some u → ∀ w', Below W.heap.size W w' → w'.cell? ⟨g, o + k * 11 + j, none⟩ = some u := fun j u hu w' hb => by
  have := (h.below hb).cells _ u (fcells_get l k f hk j u hu)
  rw [← Nat.add_assoc] at this
  exact this
set_option maxRecDepth 100000 in
set_option maxHeartbeats 4000000 in
theorem sends_any (A : Option Addr) (n c : Nat) (l : List Fr) (w : World) (hx : l.length = n) (hn : n ≤ c) (hc : c ≤ maxLen) (hA : A = none → n = 0 ∧ c = 0) (hr : Rd w w.heap.size A (fcells l)) (hwf : ∀ x ∈ l, x.wf) :
    Calls Try.prog 4 #[.slice A n c] w fun e w' => e = .returned (.bool true) ∧ Below w.heap.size w w' := by
  unfold maxLen at hc
  obtain ⟨N, hN⟩ : ∃ N, min n 10 = N := ⟨_, rfl⟩
  obtain ⟨ls, hls⟩ : ∃ ls, l.take N = ls := ⟨_, rfl⟩
  have hlN : ls.length = N := by rw [← hls, List.length_take]; omega
  have hwfs : ∀ x ∈ ls, x.wf := fun x hx => hwf x (List.mem_of_mem_take (by rw [hls]; exact hx))
  have hrs : Rd w w.heap.size A (fcells ls) := by rw [← hls, fcells_take]; exact hr.take _
  have hN30 : N ≤ 10 := by omega
  have HLN := Lib.hid hlN
  clear hx hr hls hlN
  go_enter Try.func4, Try.ntmps4
  go_wp2_with fail
  refine (shown_any _).mono ?_
  rintro e w1 ⟨rfl, b1⟩
  have z1 := b1.size
  have N1 := Lib.hid (new_yes (fun _ => (0, 9)) w.heap.size none 0 0 [] w1 z1 (nu0 w1) rfl Rd.nil (fun _ => ⟨rfl, rfl⟩) (by decide) (fun x hx => by cases hx))
  go_wp2_with fail
  refine N1.out.mono ?_
  rintro e w2 ⟨q, Φ2, rfl, hq, B2, x2⟩
  have z2 := x2.size
  have k2 := b1.trans (x2.below z1)
  have HT2 : SK w.heap.size q Φ2 none 0 [] w2 := ⟨B2, OwC.nil _ _ _ _ _ _, x2.nu, fun x hx => by cases hx⟩
  clear N1 B2 x2
  go_upto_region 6 with fail
  go_cut [33, 34, 35] (fun v nv iv wx => v = .slice A N c ∧ nv = .int .i64 N ∧ iv = .int .i64 0 ∧ wx = w2)
  case first =>
    by_cases h8 : n ≤ 10
    · obtain rfl : N = n := by omega
      have h8' : (N : Int) ≤ 10 := by omega
      have hcn : (N : Int) ≤ c := by omega
      cases A with
      | none =>
        obtain ⟨h1, rfl⟩ := hA rfl
        subst h1
        go_wp2_with fail
        go_meet
        case rel => exact ⟨rfl, rfl, rfl, rfl⟩
      | some ad =>
        go_wp2_with fail
        go_meet
        case rel => exact ⟨rfl, rfl, rfl, rfl⟩
    · have h8' : (10 : Int) < n := by omega
      obtain rfl : N = 10 := by omega
      have hcn : (10 : Int) ≤ c := by omega
      cases A with
      | none => have := (hA rfl).1; omega
      | some ad =>
        go_wp2_with fail
        go_meet
        case rel => exact ⟨rfl, rfl, rfl, rfl⟩
  case rest =>
    obtain ⟨rfl, rfl, rfl, rfl⟩ := hcut
    clear hN
    go_wp2_with fail
    go_loopw [6, 35] (fun v iv wr => ∃ (k : Nat), k ≤ N ∧ iv = .int .i64 k ∧ SKE w.heap.size q w v wr) (fun _ iv _ => N - (intOf iv).toNat)
    case atStart => exact ⟨0, Nat.zero_le _, rfl, Φ2, none, 0, [], rfl, HT2, k2⟩
    case round =>
      obtain ⟨k, hk, rfl, Φ, AI, cI, inn, rfl, HT, hbr⟩ := hrel
      have hzr := hbr.size
      clear HT2 k2
      obtain ⟨m, hm⟩ : ∃ m, inn.length = m := ⟨_, rfl⟩
      have hm3 : m ≤ 3 := by have := HT.le; rw [← hm]; exact this
      have HM := Lib.hid hm
      have HIo : Hid (OwC Φ (0, 8) wr w.heap.size 26 11 AI m cI (fcells inn)) := Lib.hid (by rw [← hm]; exact HT.o)
      have hcI := HIo.out.1.2.2.1
      unfold maxLen at hcI
      have hcI2 := HIo.out.1.2.1
      rw [hm]
      clear hm
      have hm3' : (m : Int) ≤ 3 := by omega
      by_cases hlt : k < N
      · have hlt' : (k : Int) < N := by omega
        obtain ⟨f, ht⟩ : ∃ t, ls[k]? = some t := ⟨_, List.getElem?_eq_getElem (by rw [HLN.out]; exact hlt)⟩
        have hf := hwfs f (List.mem_of_getElem? ht)
        have hne : fcells ls ≠ [] := by intro h; have h2 := fcells_len ls; rw [h, HLN.out] at h2; simp at h2; omega
        obtain ⟨b, o, ea, hbl, hcl⟩ := hrs.below hbr hne
        have hc' : ∀ j u, f.cs[j]? = some u → wr.cell? ⟨b, o + (k * 11 + j), none⟩ = some u := fun j u hu => hcl _ _ (fcells_get ls k f ht j u hu)
        have r0 := hc' 0 _ rfl
        have r1 := hc' 1 _ rfl
        have r2 := hc' 2 _ rfl
        have r3 := hc' 3 _ rfl
        have r4 := hc' 4 _ rfl
        have r5 := hc' 5 _ rfl
        have r6 := hc' 6 _ rfl
        have r7 := hc' 7 _ rfl
        have r8 := hc' 8 _ rfl
        have r9 := hc' 9 _ rfl
        have r10 := hc' 10 _ rfl
        rw [Nat.add_zero] at r0
        rw [← Nat.add_assoc] at r1 r2 r3 r4 r5 r6 r7 r8 r9 r10
        clear hc' hcl ht
        subst ea
        have HTH := Lib.hid HT
        clear HT
        go_upto_region 9 with fail
        refine wp_named fun W hW => ?_
        obtain ⟨BW, hbW⟩ := blk1 (c1 := f.cs.toArray) hW
        clear hW r0 r1 r2 r3 r4 r5 r6 r7 r8 r9 r10
        have hzW := hbW.size
        have FN : Φ wr.heap.size = (0, 9) := HTH.out.n _ (Nat.le_refl _)
        have hbrW := hbr.trans (hbW.mono hzr)
        have MY := Lib.hid (fun w => refmay_any f w hf)
        obtain ⟨bm, hbm⟩ : ∃ bm, f.may = bm := ⟨_, rfl⟩
        rw [hbm] at MY
        have HBM := Lib.hid hbm
        have FINX : Hid (∀ Φ A c inn (v : Value) W, v = .slice A inn.length c → SK w.heap.size q Φ A c inn W → Below w.heap.size w W → ∃ k' : Nat, k' ≤ N ∧ Value.int .i64 ((k + 1 : Nat) : Int) = .int .i64 k' ∧ SKE w.heap.size q w v W) := Lib.hid fun Φ A c inn v W e1 h1 h2 => ⟨k + 1, by omega, rfl, Φ, A, c, inn, e1, h1, h2⟩
        have SD : Hid (∀ w', Below W.heap.size W w' → Calls Try.prog 18 #[.pointer (some ⟨q, 0, none⟩), f.val] w' (BxP Φ w.heap.size w' q (sendX ⟨[], sent inn, [], false⟩ f) (.int .i64 (sendE ⟨[], sent inn, [], false⟩ f)))) := Lib.hid fun w' hb => send_any ((HTH.out.b.below hbW).below hb) (by have := hb.size; omega) ((HTH.out.n.below hbW).below hb) f hf
        have HTW := Lib.hid (HTH.out.below hbW)
        have HOW := Lib.hid (HIo.out.below hbW)
        have bwc := BW.cell
        clear hbm
        go_wp2_with fail
        refine (MY.out _).mono ?_
        rintro e w3 ⟨rfl, b3⟩
        have S3 := Lib.hid (SD.out w3 b3)
        have bwc3 := (BW.below b3).cell
        have T3 := Lib.hid (HTW.out.below b3)
        have O3 := Lib.hid (HOW.out.below b3)
        have hb3 := hbrW.trans (b3.mono (by omega))
        have hz3 := hb3.size
        have F3 : BlC Φ (0, 9) w3 wr.heap.size 26 f.cs.toArray := ⟨BW.below b3, FN⟩
        clear SD
        rcases (by cases bm <;> simp <;> omega : bm = false ∨ (bm = true ∧ m = 3) ∨ (bm = true ∧ m < 3)) with rfl | ⟨rfl, rfl⟩ | ⟨rfl, hlt3⟩
        · have hE : sendE ⟨[], sent inn, [], false⟩ f = 1 := by unfold sendE; rw [HBM.out]; rfl
          have hX : sendX ⟨[], sent inn, [], false⟩ f = ⟨[], sent inn, [], false⟩ := by unfold sendX; rw [hE, if_neg (by decide)]
          rw [hE, hX] at S3
          clear hE hX
          go_wp2_with fail
          refine S3.out.mono ?_
          rintro e w4 ⟨rfl, Φ4, B4, x4⟩
          go_wp2_with fail
          go_roundw
          case rel => exact FINX.out Φ4 AI cI inn _ _ (by rw [HM.out]) ⟨B4, T3.out.o.ext x4 (Sq.no8 q), x4.nu, T3.out.f⟩ (hb3.trans (x4.below hz3))
          case measure => simp [intOf]; omega
        · have hE : sendE ⟨[], sent inn, [], false⟩ f = 20 := by unfold sendE; rw [HBM.out]; rw [if_neg (by decide), if_pos (by show 3 ≤ (sent inn).length; rw [sent_length, HM.out]; exact Nat.le_refl 3)]
          have hX : sendX ⟨[], sent inn, [], false⟩ f = ⟨[], sent inn, [], false⟩ := by unfold sendX; rw [hE, if_neg (by decide)]
          rw [hE, hX] at S3
          clear hE hX
          go_wp2_with fail
          refine S3.out.mono ?_
          rintro e w4 ⟨rfl, Φ4, B4, x4⟩
          go_wp2_with fail
          go_roundw
          case rel => exact FINX.out Φ4 AI cI inn _ _ (by rw [HM.out]) ⟨B4, T3.out.o.ext x4 (Sq.no8 q), x4.nu, T3.out.f⟩ (hb3.trans (x4.below hz3))
          case measure => simp [intOf]; omega
        · have hlt3' : (m : Int) < 3 := by omega
          have hE : sendE ⟨[], sent inn, [], false⟩ f = 0 := by unfold sendE; rw [HBM.out, if_neg (by decide), if_neg (by show ¬ 3 ≤ (sent inn).length; rw [sent_length, HM.out]; omega)]
          have hX : sendX ⟨[], sent inn, [], false⟩ f = ⟨[], sent (inn ++ [f]), [], false⟩ := by unfold sendX; rw [hE, if_pos rfl, sent_snoc]
          rw [hE, hX] at S3
          clear hE hX
          go_wp2_with fail
          refine S3.out.mono ?_
          rintro e w4 ⟨rfl, Φ4, B4, x4⟩
          have O4 := Lib.hid (O3.out.ext x4 (Sq.no8 q))
          have F4 := F3.ext x4 (Sq.no9 q)
          have bwc4 := F4.1.cell
          have n4 := x4.nu
          have hb4 := hb3.trans (x4.below hz3)
          have hz4 := hb4.size
          have hKK : Hid (∀ w9 A9 c9, Own w9 w.heap.size 26 11 A9 (m + 1) c9 (fcells inn ++ f.cs) → (w4.alloc (.cells f.cs.toArray 26)).grownBy w9 (blkOf AI) → (blkOf A9 = blkOf AI ∨ blkOf A9 = some (w4.alloc (.cells f.cs.toArray 26)).heap.size) → ∃ Φ' inn', inn'.length = m + 1 ∧ SK w.heap.size q Φ' A9 c9 inn' w9 ∧ Below w.heap.size w w9) := Lib.hid fun w9 A9 c9 x1 x2 x3 => by
            have b8a := bl1 w4 (.cells f.cs.toArray 26)
            have Oa := O4.out.below b8a
            have hx := ((Ext.refl (B := w.heap.size) (S := fun c => c = (0, 8)) (n4.below b8a)).grown (fun g hg => ⟨(Oa.1.lt hg).1, Oa.2 g hg⟩) x2).paint (A := A9) (k := (0, 8)) (fun g hg => ⟨(x1.lt hg).2, fun hlt => by
              rcases x3 with e | e
              · exact Oa.2 g (by rw [← e]; exact hg)
              · rw [e] at hg
                simp only [Option.some.injEq] at hg
                omega⟩)
            have hlen : (inn ++ [f]).length = m + 1 := by rw [List.length_append, HM.out]; rfl
            refine ⟨_, inn ++ [f], hlen, ⟨(B4.below b8a).ext hx (fun j hj hh => by simp at hh; omega) (by simp), ?_, hx.nu, fun x hx => ?_⟩, (hb4.trans (b8a.mono hz4)).trans (hx.below (Nat.le_trans hz4 b8a.size))⟩
            · rw [hlen, fcells_app]
              simp only [fcells, List.append_nil]
              exact OwC.paint_self x1
            · rcases List.mem_append.1 hx with h | h
              · exact T3.out.f x h
              · rw [List.mem_singleton.1 h]; exact hf
          clear B4 x4 bwc3 bwc
          go_wp2_with (at_builtin; refine wpList_app _ rfl (.tmp 52) (.tmp 54) 36 rfl w.heap.size 26 z26 11 24 Try.underlying36 info26 rfl (by decide) AI m cI _ rfl (O4.out.1.alloc (.cells f.cs.toArray 26)) _ _ 1 1 f.cs rfl rfl ((Blk.new w4 26 f.cs.toArray).rd) (fr_one f) (by unfold maxLen; omega) (by omega) (by simp; omega) ?_; intro A9 c9 w9 ho9 hg9 hbk9)
          obtain ⟨Φ9, inn9, hl9, S9, hb9⟩ := hKK.out w9 A9 c9 ho9 hg9 hbk9
          go_roundw
          case rel => exact FINX.out Φ9 A9 c9 inn9 _ _ (by rw [hl9]) S9 hb9
          case measure => simp [intOf]; omega
      · obtain rfl : k = N := by omega
        have HTH := Lib.hid HT
        clear HIo HT hcI
        go_wp2_with fail
        go_loopw [6, 10] (fun v nv wr => SKN w.heap.size q w v nv wr) (fun _ nv _ => (intOf nv).toNat)
        case atStart => exact ⟨Φ, AI, cI, inn, by rw [HM.out], by rw [HM.out], HTH.out, hbr⟩
        case round =>
          clear HTH HM hcI2 hm3 hm3' hbr hzr
          obtain ⟨ΦJ, AJ, cJ, jn, rfl, rfl, HT, hbr⟩ := hrel
          have hzr := hbr.size
          obtain ⟨m2, hm2⟩ : ∃ m2, jn.length = m2 := ⟨_, rfl⟩
          have HM2 := Lib.hid hm2
          have hle := HT.le
          rw [hm2] at hle
          have HTO := Lib.hid HT.o
          rw [hm2] at HTO
          rw [hm2]
          clear hm2
          have hle' : (m2 : Int) ≤ 3 := by omega
          by_cases h0 : m2 = 0
          · subst h0
            obtain rfl : jn = [] := List.eq_nil_of_length_eq_zero HM2.out
            have NX := Lib.hid (next_hd (x := Fr.none_) (ok := false) HT.b rfl rfl)
            have HTH2 := Lib.hid HT
            clear HT
            go_wp2_with fail
            refine NX.out.mono ?_
            rintro e w3 ⟨rfl, b3⟩
            have b3a := b3.trans ((bl1 w3 (.cells Fr.none_.cs.toArray 26)).mono b3.size)
            have T3 := Lib.hid (HTH2.out.below b3a)
            have hb3 := hbr.trans (b3a.mono hzr)
            have D := Lib.hid (done_any T3.out.b T3.out.n)
            go_wp2_with fail
            refine D.out.mono ?_
            rintro e w4 ⟨rfl, Φ4, B4, x4⟩
            have WT : Hid (Calls Try.prog 21 #[.pointer (some ⟨q, 0, none⟩)] w4 fun e w' => e = .returned (.int .i64 0) ∧ w4 = w') := Lib.hid (wait_any B4)
            have hb4 := hb3.trans (x4.below hb3.size)
            clear B4
            go_wp2_with fail
            refine WT.out.mono ?_
            rintro e w5 ⟨rfl, rfl⟩
            go_wp2_with fail
            go_ret
            exact ⟨rfl, hb4⟩
          · have h0' : (0 : Int) < m2 := by omega
            have hsl : (sent jn).length = m2 := (sent_length jn).trans HM2.out
            have hsn : (!(sent jn).isEmpty) = true := by cases hs : sent jn with
              | nil => rw [hs] at hsl; simp at hsl; omega
              | cons a r => rfl
            obtain ⟨x, hxd⟩ : ∃ x, (sent jn).headD Fr.none_ = x := ⟨_, rfl⟩
            have NX := Lib.hid (next_hd (x := x) (ok := true) HT.b hxd hsn)
            have HXD := Lib.hid hxd
            have HTH2 := Lib.hid HT
            obtain ⟨g3, o3, hA3⟩ := HTO.out.1.at_ (by omega)
            subst hA3
            have hcJ := HTO.out.1.2.2.1
            unfold maxLen at hcJ
            have hcJ2 := HTO.out.1.2.1
            clear HT hxd hsn hsl
            go_wp2_with fail
            refine NX.out.mono ?_
            rintro e w3 ⟨rfl, b3⟩
            go_upto_region 23 with fail
            refine wp_named fun W hW => ?_
            obtain ⟨BX3, hbW⟩ := blk1 (c1 := x.cs.toArray) hW
            clear hW NX
            have b3W := b3.trans (hbW.mono b3.size)
            have TW := Lib.hid (HTH2.out.below b3W)
            have OW := Lib.hid (HTO.out.below b3W)
            have hb3 := hbr.trans (b3W.mono hzr)
            have hz3 := hb3.size
            go_wp2_with fail
            go_loopw [13, 70] (fun bv iv wx => ∃ k2 : Nat, k2 ≤ m2 ∧ iv = .int .i64 k2 ∧ BestI jn k2 bv ∧ Below W.heap.size W wx) (fun _ iv _ => m2 - (intOf iv).toNat)
            case atStart => exact ⟨0, Nat.zero_le _, rfl, .inl ⟨rfl, rfl⟩, Below.refl _ _⟩
            case round =>
              obtain ⟨k2, hk2, rfl, hbest, hbx⟩ := hrel
              have hzx := hbx.size
              by_cases hl2 : k2 < m2
              · have hl2' : (k2 : Int) < m2 := by omega
                obtain ⟨y, hy⟩ : ∃ t, jn[k2]? = some t := ⟨_, List.getElem?_eq_getElem (by rw [HM2.out]; exact hl2)⟩
                have hyd : jn.getD k2 Fr.none_ = y := by rw [List.getD_eq_getElem?_getD, hy]; rfl
                have hyw := TW.out.f y (List.mem_of_getElem? hy)
                have HYD := Lib.hid hyd
                have rr := row_rule OW.out.1 k2 y hy
                have r0 := rr 0 _ rfl wr hbx
                have r1 := rr 1 _ rfl wr hbx
                have r2 := rr 2 _ rfl wr hbx
                have r3 := rr 3 _ rfl wr hbx
                have r4 := rr 4 _ rfl wr hbx
                have r5 := rr 5 _ rfl wr hbx
                have r6 := rr 6 _ rfl wr hbx
                have r7 := rr 7 _ rfl wr hbx
                have r8 := rr 8 _ rfl wr hbx
                have r9 := rr 9 _ rfl wr hbx
                have r10 := rr 10 _ rfl wr hbx
                rw [Nat.add_zero] at r0
                clear rr hy hyd
                go_upto_region 27 with fail
                refine wp_named fun W1 hW1 => ?_
                obtain ⟨BY, hbW1⟩ := blk1 (c1 := y.cs.toArray) hW1
                have hb1 := hbx.trans (hbW1.mono hzx)
                clear hW1 r0 r1 r2 r3 r4 r5 r6 r7 r8 r9 r10
                have hz1 := hb1.size
                have RY : ∀ w', Below W1.heap.size W1 w' → ∀ i, w'.cell? ⟨wr.heap.size, i, none⟩ = y.cs.toArray[i]? := fun w' hb => (BY.below hb).cell
                have FJ : Hid (∀ bv W', BestI jn (k2 + 1) bv → Below W1.heap.size W1 W' → ∃ k' : Nat, k' ≤ m2 ∧ Value.int .i64 ((k2 + 1 : Nat) : Int) = .int .i64 k' ∧ BestI jn k' bv ∧ Below W.heap.size W W') := Lib.hid fun bv W' h1 h2 => ⟨k2 + 1, by omega, rfl, h1, hb1.trans (h2.mono hz1)⟩
                rcases hbest with ⟨rfl, rfl⟩ | ⟨b, rfl, hB⟩
                · have HB1 : Hid (BestI jn 1 (.int .i64 (0 : Nat))) := Lib.hid (.inr ⟨0, rfl, Best.one (by rw [HM2.out]; omega)⟩)
                  refine wp_region_c (fun w' => Below W1.heap.size W1 w') (by kernel_rfl) (by kernel_rfl) ((Below.refl _ _).drew) ?_
                  repeat (first
                    | (refine wpL_skip (by rfl) ?_; try simp only [Act.put, List.setIfInBounds_toArray, List.set_cons_zero, List.set_cons_succ, Nat.reduceAdd])
                    | (refine wpL_val (v := ?_) (by rfl) ?_ ?_; rotate_left; · (intro w' hS; go_simp; first | done | with_reducible rfl)
                       try simp only [Act.put, List.setIfInBounds_toArray, List.set_cons_zero, List.set_cons_succ, Nat.reduceAdd]))
                  refine wpL_done (fun w8 hS => ?_)
                  go_wp2_with fail
                  go_roundw
                  case rel => exact FJ.out _ _ HB1.out hS
                  case measure => simp [intOf]; omega
                · have hbl := hB.lt
                  have hbI : (b : Int) < m2 := by omega
                  have hb0 : decide ((b : Int) < 0) = false := decide_eq_false (by omega)
                  obtain ⟨z, hz⟩ : ∃ t, jn[b]? = some t := ⟨_, List.getElem?_eq_getElem (by rw [HM2.out]; omega)⟩
                  have hzd : jn.getD b Fr.none_ = z := by rw [List.getD_eq_getElem?_getD, hz]; rfl
                  have hzw := TW.out.f z (List.mem_of_getElem? hz)
                  have rr := row_rule (OW.out.1.below hb1) b z hz
                  have r0 := rr 0 _ rfl
                  have r1 := rr 1 _ rfl
                  have r2 := rr 2 _ rfl
                  have r3 := rr 3 _ rfl
                  have r4 := rr 4 _ rfl
                  have r5 := rr 5 _ rfl
                  have r6 := rr 6 _ rfl
                  have r7 := rr 7 _ rfl
                  have r8 := rr 8 _ rfl
                  have r9 := rr 9 _ rfl
                  have r10 := rr 10 _ rfl
                  simp only [Nat.add_zero] at r0
                  clear rr hz
                  have R1 := Lib.hid (fun w => refrank_any y w hyw)
                  have R2 := Lib.hid (fun w => refrank_any z w hzw)
                  have hst : Hid (¬ y.rank < z.rank → BestI jn (k2 + 1) (.int .i64 b)) := Lib.hid fun h => .inr ⟨b, rfl, hB.stay (by rw [HM2.out]; exact hl2) (by rw [HYD.out, hzd]; exact h)⟩
                  have hnw : Hid (y.rank < z.rank → BestI jn (k2 + 1) (.int .i64 k2)) := Lib.hid fun h => .inr ⟨k2, rfl, hB.new (by rw [HM2.out]; exact hl2) (by rw [HYD.out, hzd]; exact h)⟩
                  obtain ⟨r1, hr1⟩ : ∃ r1, y.rank = r1 := ⟨_, rfl⟩
                  obtain ⟨r2, hr2⟩ : ∃ r2, z.rank = r2 := ⟨_, rfl⟩
                  rw [hr1] at R1 hst hnw
                  rw [hr2] at R2 hst hnw
                  clear hr1 hr2 hzd hB
                  by_cases hrr : r1 < r2
                  · have hd : decide (r1 < r2) = true := decide_eq_true hrr
                    have HNW := Lib.hid (hnw.out hrr)
                    clear hnw hst
                    refine wp_region_c (fun w' => Below W1.heap.size W1 w') (by kernel_rfl) (by kernel_rfl) ((Below.refl _ _).drew) ?_
                    repeat (first
                      | (refine wpL_skip (by rfl) ?_; try simp only [Act.put, List.setIfInBounds_toArray, List.set_cons_zero, List.set_cons_succ, Nat.reduceAdd])
                      | (refine wpL_val (v := ?_) (by rfl) ?_ ?_; rotate_left; · (intro w' hS; go_simp; first | done | with_reducible rfl)
                         try simp only [Act.put, List.setIfInBounds_toArray, List.set_cons_zero, List.set_cons_succ, Nat.reduceAdd])
                      | (refine wpL_call (v := ?_) (f := ?_) (args := ?_) (by rfl) ?_ ?_ ?_; rotate_left 3
                         · (intro w' hS; go_simp; first | done | (refine ⟨?_, ?_⟩ <;> with_reducible rfl) | with_reducible rfl)
                         · (intro w' hS; first
                             | ((with_reducible refine (R1.out _).mono ?_); rintro e w2 ⟨rfl, hb⟩; refine ⟨?_, bel2 hS hb⟩; with_reducible rfl)
                             | ((with_reducible refine (R2.out _).mono ?_); rintro e w2 ⟨rfl, hb⟩; refine ⟨?_, bel2 hS hb⟩; with_reducible rfl))
                         try simp only [Act.put, List.setIfInBounds_toArray, List.set_cons_zero, List.set_cons_succ, Nat.reduceAdd]))
                    refine wpL_done (fun w8 hS => ?_)
                    go_wp2_with fail
                    go_roundw
                    case rel => exact FJ.out _ _ HNW.out hS
                    case measure => simp [intOf]; omega
                  · have hd : decide (r1 < r2) = false := decide_eq_false hrr
                    have HST := Lib.hid (hst.out hrr)
                    clear hnw hst
                    refine wp_region_c (fun w' => Below W1.heap.size W1 w') (by kernel_rfl) (by kernel_rfl) ((Below.refl _ _).drew) ?_
                    repeat (first
                      | (refine wpL_skip (by rfl) ?_; try simp only [Act.put, List.setIfInBounds_toArray, List.set_cons_zero, List.set_cons_succ, Nat.reduceAdd])
                      | (refine wpL_val (v := ?_) (by rfl) ?_ ?_; rotate_left; · (intro w' hS; go_simp; first | done | with_reducible rfl)
                         try simp only [Act.put, List.setIfInBounds_toArray, List.set_cons_zero, List.set_cons_succ, Nat.reduceAdd])
                      | (refine wpL_call (v := ?_) (f := ?_) (args := ?_) (by rfl) ?_ ?_ ?_; rotate_left 3
                         · (intro w' hS; go_simp; first | done | (refine ⟨?_, ?_⟩ <;> with_reducible rfl) | with_reducible rfl)
                         · (intro w' hS; first
                             | ((with_reducible refine (R1.out _).mono ?_); rintro e w2 ⟨rfl, hb⟩; refine ⟨?_, bel2 hS hb⟩; with_reducible rfl)
                             | ((with_reducible refine (R2.out _).mono ?_); rintro e w2 ⟨rfl, hb⟩; refine ⟨?_, bel2 hS hb⟩; with_reducible rfl))
                         try simp only [Act.put, List.setIfInBounds_toArray, List.set_cons_zero, List.set_cons_succ, Nat.reduceAdd]))
                    refine wpL_done (fun w8 hS => ?_)
                    go_wp2_with fail
                    go_roundw
                    case rel => exact FJ.out _ _ HST.out hS
                    case measure => simp [intOf]; omega
              · obtain rfl : m2 = k2 := by omega
                rcases hbest with ⟨h, -⟩ | ⟨b, rfl, hB⟩
                · exact absurd h h0
                have hbl := hB.lt
                have hbI : (b : Int) < m2 := by omega
                have hBl : Best jn jn.length b := by rw [HM2.out]; exact hB
                have hxz : x = jn.getD b Fr.none_ := by rw [← HXD.out, hBl.sent]; rfl
                have hz : jn[b]? = some x := by rw [hxz, List.getD_eq_getElem?_getD, List.getElem?_eq_getElem (by rw [HM2.out]; exact hbl)]; rfl
                have HTL : Hid ((sent jn).tail = sent (jn.take b ++ jn.drop (b + 1))) := Lib.hid (by rw [hBl.sent]; rfl)
                have rr := row_rule (OW.out.1.below hbx) b x hz
                have r0 := rr 0 _ rfl
                have r1 := rr 1 _ rfl
                have r2 := rr 2 _ rfl
                have r3 := rr 3 _ rfl
                have r4 := rr 4 _ rfl
                have r5 := rr 5 _ rfl
                have r6 := rr 6 _ rfl
                have r7 := rr 7 _ rfl
                have r8 := rr 8 _ rfl
                have r9 := rr 9 _ rfl
                have r10 := rr 10 _ rfl
                simp only [Nat.add_zero] at r0
                have RX : ∀ w', Below wr.heap.size wr w' → ∀ i, w'.cell? ⟨w3.heap.size, i, none⟩ = x.cs.toArray[i]? := fun w' hb => ((BX3.below hbx).below hb).cell
                have hwl : ({ fl := [], tx := sent jn, rx := [], lost := false } : Bx).tx.length = m2 := (sent_length jn).trans HM2.out
                have WT := Lib.hid (fun w' (hb : Below wr.heap.size wr w') => wait_any ((TW.out.b.below hbx).below hb))
                rw [hwl] at WT
                have heq := fun w' => eq26_any x x w'
                rw [eqb_self'] at heq
                have hmm : ((m2 : Int) != (m2 : Int)) = false := by simp
                obtain ⟨S, hS0⟩ : ∃ S, b + 1 = S := ⟨_, rfl⟩
                clear rr hz hBl hB hwl hxz
                go_wp2_with fail
                refine wp_region_c (fun w' => Below wr.heap.size wr w') (by kernel_rfl) (by kernel_rfl) ((Below.refl _ _).drew) ?_
                repeat (first
                  | (refine wpL_skip (by rfl) ?_; try simp only [Act.put, List.setIfInBounds_toArray, List.set_cons_zero, List.set_cons_succ, Nat.reduceAdd])
                  | (refine wpL_val (v := ?_) (by rfl) ?_ ?_; rotate_left; · (intro w' hS; go_simp; first | done | with_reducible rfl)
                     try simp only [Act.put, List.setIfInBounds_toArray, List.set_cons_zero, List.set_cons_succ, Nat.reduceAdd])
                  | (refine wpL_call (v := ?_) (f := ?_) (args := ?_) (by rfl) ?_ ?_ ?_; rotate_left 3
                     · (intro w' hS; go_simp; first | done | (refine ⟨?_, ?_⟩ <;> with_reducible rfl) | with_reducible rfl)
                     · (intro w' hS; first
                         | ((with_reducible refine (WT.out _ hS).mono ?_); rintro e w2 ⟨rfl, rfl⟩; refine ⟨?_, hS⟩; with_reducible rfl))
                     try simp only [Act.put, List.setIfInBounds_toArray, List.set_cons_zero, List.set_cons_succ, Nat.reduceAdd]))
                refine wpL_done (fun w8 hS => ?_)
                have T8 := Lib.hid ((TW.out.below hbx).below hS)
                have O8 := Lib.hid ((OW.out.below hbx).below hS)
                have hb8 := hb3.trans ((hbx.trans (hS.mono hzx)).mono hz3)
                have hz8 := hb8.size
                clear r0 r1 r2 r3 r4 r5 r6 r7 r8 r9 r10 RX WT heq hmm
                have hwS : IntKind.i64.wrap ((b : Int) + 1) = (S : Int) := by rw [← hS0]; exact IntWalk.i64_in _ (by omega)
                have hSm : (S : Int) ≤ m2 := by omega
                have hSc : (S : Int) ≤ cJ := by omega
                have hbc : (b : Int) ≤ cJ := by omega
                go_wp2_with fail
                have HR1 : Hid (∀ w', Below w8.heap.size w8 w' → Rd w' w8.heap.size (some ⟨g3, o3, none⟩) (fcells (jn.take b))) := Lib.hid fun w' hb => by rw [fcells_take]; exact (O8.out.1.rd.below hb).take _
                have HL1 : Hid ((fcells (jn.take b)).length = b * 11) := Lib.hid (by rw [fcells_len, List.length_take, HM2.out, Nat.min_eq_left (by omega)])
                have HR0 : Hid (∀ w', Below w8.heap.size w8 w' → Rd w' w8.heap.size (if cJ = S then some ⟨g3, o3, none⟩ else some ⟨g3, o3 + S * 11, none⟩) (fcells (jn.drop S))) := Lib.hid fun w' hb => by
                  have h1 := O8.out.1.cut (k := S) (by omega) (by decide)
                  rw [← fcells_drop] at h1
                  have h2 := h1.rd.below hb
                  rw [Option.map_some, show (⟨g3, o3, none⟩ : Addr).add (S * 11) = ⟨g3, o3 + S * 11, none⟩ from by unfold Addr.add; split <;> simp_all <;> omega] at h2
                  exact h2
                have HFIN : Hid (∀ w9 A9 c9 n9, Own w9 w8.heap.size 26 11 A9 n9 c9 ([] ++ fcells (jn.take b) ++ fcells (jn.drop S)) → Below w8.heap.size w8 w9 → ∃ Φ' jn', jn'.length = n9 ∧ n9 = m2 - 1 ∧ jn' = jn.take b ++ jn.drop S ∧ BX Φ' w.heap.size w9 q ⟨[], sent jn, [], false⟩ ∧ OwC Φ' (0, 8) w9 w.heap.size 26 11 A9 n9 c9 (fcells jn') ∧ Nu Φ' w9 ∧ Below w.heap.size w w9) := Lib.hid fun w9 A9 c9 n9 x1 x2 => by
                  have hx := (Ext.of_below (B := w.heap.size) (S := fun c => c = (0, 8)) T8.out.n x2).paint (A := A9) (k := (0, 8)) (fun g hg => ⟨(x1.lt hg).2, fun hlt => by have := (x1.lt hg).1; omega⟩)
                  have hl9 : (jn.take b ++ jn.drop S).length = n9 := by
                    have h1 := x1.1
                    rw [List.nil_append, ← fcells_app, fcells_len] at h1
                    omega
                  refine ⟨_, jn.take b ++ jn.drop S, hl9, ?_, rfl, T8.out.b.ext hx (fun j hj hh => by simp at hh; omega) (by simp), ?_, hx.nu, hb8.trans (x2.mono hz8)⟩
                  · rw [← hl9, List.length_append, List.length_take, List.length_drop, HM2.out]
                    omega
                  · rw [fcells_app]
                    exact OwC.paint_self (x1.more hz8)
                clear hS
                go_region_held_law (fun w' => Below w8.heap.size w8 w') (first | exact (Below.refl _ _).drew | exact ((Below.refl _ _).alloc (Nat.le_refl _) _).drew | exact Below.alloc (by assumption) (Below.size (by assumption)) _ | exact hb7 | exact hb5 | assumption)
                  (first
                    | (refine step_app _ rfl (.tmp 105) (.tmp 108) 36 rfl w8.heap.size 26 z26 11 24 Try.underlying36 info26 rfl (by decide) _ 0 0 [] rfl (fr26 w8).drew _ _ b _ (fcells (jn.take b)) rfl HL1.out (HR1.out _ ((Below.refl _ _).alloc (Nat.le_refl _) _).drew) (fcells_one _) (by unfold maxLen; omega) (by omega) (by simp) ?_; intro A5 c5 w5 ho5 hg5 hbk5; have hb5 : Below w8.heap.size w8 w5 := bel_app ((Below.refl _ _).alloc (Nat.le_refl _) _).drew (fr26 w8).drew (Nat.le_refl _) hg5)
                    | (refine step_app _ rfl (.tmp 109) (.tmp 113) 36 rfl w8.heap.size 26 z26 11 24 Try.underlying36 info26 rfl (by decide) _ _ _ _ rfl ho5 _ _ _ _ (fcells (jn.drop S)) rfl (by rw [fcells_len, List.length_drop, HM2.out]; try omega) (HR0.out _ hb5) (fcells_one _) (by unfold maxLen; omega) (by omega) hb5.size ?_; intro A7 c7 w7 ho7 hg7 hbk7; have hb7 : Below w8.heap.size w8 w7 := bel_app hb5 ho5 (Nat.le_refl _) hg7))
                obtain ⟨Φ9, jn', hl9, hn9, hj9, B9, O9, n9, hb9⟩ := HFIN.out _ _ _ _ ho7 hb7
                have D := Lib.hid (done_any B9 n9)
                go_wp2_with fail
                all_goals
                  refine D.out.mono ?_
                  rintro e w10 ⟨rfl, Φ10, B10, x10⟩
                  have O10 := O9.ext x10 (Sq.no8 q)
                  have hb10 := hb9.trans (x10.below hb9.size)
                  have hm1 : (1 : Int) ≤ m2 := by omega
                  rw [show ({ fl := [], tx := (sent jn).tail, rx := [], lost := false } : Bx) = ⟨[], sent jn', [], false⟩ from by rw [HTL.out, hj9, hS0]] at B10
                  go_wp2_with fail
                  go_roundw
                  case rel => exact ⟨Φ10, A7, c7, jn', by rw [hl9, Nat.zero_add], by rw [hl9, hn9]; go_num, ⟨B10, by rw [hl9]; exact O10, x10.nu, fun x hx => by
                    rw [hj9] at hx
                    rcases List.mem_append.1 hx with h | h
                    · exact T8.out.f x (List.mem_of_mem_take h)
                    · exact T8.out.f x (List.mem_of_mem_drop h)⟩, hb10⟩
                  case measure => simp [intOf]; omega
end Go.Proofs.Ytbmkfjgodgmjnaa
