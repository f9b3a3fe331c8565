/- BusRanks: the walk. -/
import Derived.Test.YtbmkfjgodgmjnaaDA
import Derived.Test.YtbmkfjgodgmjnaaChain
import Derived.Test.YtbmkfjgodgmjnaaConf
namespace Go.Proofs.Ytbmkfjgodgmjnaa
open Go.RowKit
set_option linter.unusedVariables false
set_option linter.unusedSimpArgs false
/-- The block of x. -/
def KX (Ad : Nat → Option Addr) (ns cs : Nat → Nat) (w : World) : List (Nat × TypeId × Array Value) := [(w.heap.size, 57, #[.slice (Ad 0) (ns 0) (cs 0), .slice (Ad 1) (ns 1) (cs 1), .slice (Ad 2) (ns 2) (cs 2)])]
/-- The state between two nodes. -/
def R1 (Ad : Nat → Option Addr) (ns cs : Nat → Nat) (w : World) (q r : Nat → Nat) (A A' : Option Addr) (t : Nat → Bx) (k n : Nat) (s : Nat → Bx) (w' : World) : Prop :=
  n = tot s q ∧ CG w (KX Ad ns cs w) q r A A' s t w' ∧ RK3 s q ∧ ∀ j, k ≤ j → j < 3 → (s (q j)).tx = []
/-- The state within a node's frames: n so far, m of this node. -/
def R2 (Ad : Nat → Option Addr) (ns cs : Nat → Nat) (w : World) (q r : Nat → Nat) (A A' : Option Addr) (t : Nat → Bx) (k n m : Nat) (s : Nat → Bx) (w' : World) : Prop :=
  n + m = tot s q ∧ (s (q k)).tx.length = m ∧ CG w (KX Ad ns cs w) q r A A' s t w' ∧ RK3 s q ∧ ∀ j, k + 1 ≤ j → j < 3 → (s (q j)).tx = []
/-- The state while the frames go. -/
def R3 (Ad : Nat → Option Addr) (ns cs : Nat → Nat) (w : World) (q r : Nat → Nat) (A A' : Option Addr) (t : Nat → Bx) (n k : Nat) (L : Int) (i : Nat) (s : Nat → Bx) (w' : World) : Prop :=
  tot s q = n - k ∧ CG w (KX Ad ns cs w) q r A A' s t w' ∧ RK3 s q ∧ Aft s q L i
theorem rank_ge {f : Fr} (h : f.wf) : 0 ≤ f.rank := by
  have h0 := h.1
  unfold Fr.rank
  split
  · split <;> omega
  · decide
set_option maxRecDepth 100000 in
set_option maxHeartbeats 4000000 in
theorem bus_ranks_any (Ad : Nat → Option Addr) (ns cs : Nat → Nat) (xs : Nat → List Fr) (w : World)
    (hx : ∀ i, i < 3 → (xs i).length = ns i ∧ ns i ≤ cs i ∧ cs i ≤ maxLen ∧ (Ad i = none → ns i = 0 ∧ cs i = 0) ∧ Rd w w.heap.size (Ad i) (fcells (xs i)) ∧ ∀ x ∈ xs i, x.wf) :
    Calls Try.prog 9 #[.agg #[.slice (Ad 0) (ns 0) (cs 0), .slice (Ad 1) (ns 1) (cs 1), .slice (Ad 2) (ns 2) (cs 2)]] w fun e w' => e = .returned (.bool true) ∧ Below w.heap.size w w' := by
  have HX := Lib.hid hx
  clear hx
  go_enter Try.func9, Try.ntmps9
  go_upto_region 1 with fail
  refine wp_named fun W hW => ?_
  obtain ⟨BX, hbW⟩ := blk1 (c1 := #[.slice (Ad 0) (ns 0) (cs 0), .slice (Ad 1) (ns 1) (cs 1), .slice (Ad 2) (ns 2) (cs 2)]) hW
  clear hW
  have hzW := hbW.size
  go_wp2_with fail
  refine (bshown_any _).mono ?_
  rintro e w1 ⟨rfl, b1⟩
  have hb1 := hbW.trans (b1.mono hzW)
  have BX1 := Lib.hid (BX.below b1)
  clear BX
  have NQ := Lib.hid (nodes_q w.heap.size w (fun _ => (0, 9)) w1 hb1.size (fun _ _ => rfl) (fun _ h => by simp at h) hb1 (Nat.le_refl _) (fun _ => none) (fun _ => 0) (fun _ => 0) (fun _ => []) (fun i hi => ⟨rfl, Nat.le_refl _, by unfold maxLen; omega, fun _ => ⟨rfl, rfl⟩, Rd.nil, fun x h => by (cases h)⟩))
  go_wp2_with fail
  refine NQ.out.mono ?_
  rintro e w2 ⟨A, c, q, A', c', r, s0, t, Φ1, rfl, hc3, hcm, hc3', hcm', hq, hr, hs, -, N1, hb2, hΦ⟩
  have HC1 : CG w (KX Ad ns cs w) q r A A' s0 t w2 := ⟨Φ1, N1, fun k hk => by
    simp only [KX, List.mem_singleton] at hk
    subst hk
    exact ⟨BX1.out.below hb2, hΦ _ BX1.out.lt⟩⟩
  have K0 : RK3 s0 q := ⟨fun i hi => by rw [hs i hi]; first | done | rfl, fun i hi => by rw [hs i hi]; exact List.Pairwise.nil⟩
  have E0 : ∀ j, j < 3 → (s0 (q j)).tx = [] := fun j hj => by rw [hs j hj]; first | done | rfl
  clear N1 hb2 hΦ BX1 NQ hs b1 hb1
  obtain ⟨g, o, rfl⟩ := HC1.ad
  have HC := Lib.hid HC1
  clear HC1
  have hcI : (3 : Int) ≤ c := by omega
  go_wp2_with fail
  have HR0 : Hid (R1 Ad ns cs w q r (some ⟨g, o, none⟩) A' t 0 0 s0 w2) := Lib.hid ⟨by unfold tot; rw [E0 0 (by decide), E0 1 (by decide), E0 2 (by decide)]; rfl, HC.out, K0, fun j _ hj => E0 j hj⟩
  clear HC K0 E0
  go_loopw [25, 6] (fun iv sv wr => ∃ (k n : Nat) (s : Nat → Bx), k ≤ 3 ∧ iv = .int .i64 k ∧ sv = .int .i64 n ∧ n ≤ 9 ∧ R1 Ad ns cs w q r (some ⟨g, o, none⟩) A' t k n s wr) (fun iv _ _ => 3 - (intOf iv).toNat)
  case atStart => exact ⟨0, 0, s0, by decide, rfl, rfl, by decide, HR0.out⟩
  case round =>
    obtain ⟨k, n, s, hk, rfl, rfl, hn9, HT, HCr, HK, HE⟩ := hrel
    clear HR0
    by_cases hlt : k < 3
    · have hlt' : (k : Int) < 3 := by omega
      obtain ⟨g1, g2, g3, g4, g5, g6⟩ := HX.out k hlt
      obtain ⟨nk, hnk⟩ : ∃ n, ns k = n := ⟨_, rfl⟩
      obtain ⟨ck, hck⟩ : ∃ n, cs k = n := ⟨_, rfl⟩
      obtain ⟨Ak, hAk⟩ : ∃ n, Ad k = n := ⟨_, rfl⟩
      have bk : wr.cell? ⟨w.heap.size, k, none⟩ = some (.slice (Ad k) (ns k) (cs k)) := by
        rw [(HCr.blk (by unfold KX; exact .head _)).cell]
        rcases (by omega : k = 0 ∨ k = 1 ∨ k = 2) with rfl | rfl | rfl <;> rfl
      rw [hnk] at g1 g2 g4
      rw [hck] at g2 g3 g4
      rw [hAk] at g4 g5
      rw [hnk, hck, hAk] at bk
      unfold maxLen at g3
      have hwfs := Lib.hid g6
      have HL := Lib.hid g1
      have HRd := Lib.hid g5
      have HA := Lib.hid g4
      have HH : Hid (R2 Ad ns cs w q r (some ⟨g, o, none⟩) A' t k n 0 s wr) := Lib.hid ⟨HT, by rw [HE k (Nat.le_refl _) hlt]; rfl, HCr, HK, fun j h1 h2 => HE j (by omega) h2⟩
      clear g1 g4 g5 g6 HT HCr HK HE hnk hck hAk
      go_wp2_with fail
      go_loopw [32, 8] (fun iv mv wr => ∃ (j m : Nat) (s : Nat → Bx), j ≤ nk ∧ iv = .int .i64 j ∧ mv = .int .i64 m ∧ m ≤ 3 ∧ R2 Ad ns cs w q r (some ⟨g, o, none⟩) A' t k n m s wr) (fun iv _ _ => nk - (intOf iv).toNat)
      case atStart => exact ⟨0, 0, s, Nat.zero_le _, rfl, rfl, by decide, HH.out⟩
      case round =>
        obtain ⟨j, m, s1, hj, rfl, rfl, hm3, HR⟩ := hrel
        clear HH bk
        by_cases hltj : j < nk
        · have hltj' : (j : Int) < nk := by omega
          obtain ⟨f, ht⟩ : ∃ t, (xs k)[j]? = some t := ⟨_, List.getElem?_eq_getElem (by rw [HL.out]; exact hltj)⟩
          have hf := hwfs.out f (List.mem_of_getElem? ht)
          have hne : fcells (xs k) ≠ [] := by intro h; have h2 := fcells_len (xs k); rw [h, HL.out] at h2; simp at h2; omega
          obtain ⟨gx, ox, ea, hbl, hcl⟩ := (HRd.out.below HR.2.2.1.bel) hne
          have hc' : ∀ i u, f.cs[i]? = some u → wr.cell? ⟨gx, ox + (j * 11 + i), none⟩ = some u := fun i u hu => hcl _ _ (fcells_get (xs k) j f ht i u hu)
          have r0 := hc' 0 _ rfl
          have r1 := hc' 1 _ rfl
          have r2 := hc' 2 _ rfl
          have r3 := hc' 3 _ rfl
          have r4 := hc' 4 _ rfl
          have r5 := hc' 5 _ rfl
          have r6 := hc' 6 _ rfl
          have r7 := hc' 7 _ rfl
          have r8 := hc' 8 _ rfl
          have r9 := hc' 9 _ rfl
          have r10 := hc' 10 _ rfl
          rw [Nat.add_zero] at r0
          rw [← Nat.add_assoc] at r1 r2 r3 r4 r5 r6 r7 r8 r9 r10
          clear hc' hcl ht hne
          subst ea
          have HRH := Lib.hid HR
          clear HR
          go_upto_region 11 with fail
          refine wp_named fun W4 hW4 => ?_
          obtain ⟨BW, hbW4⟩ := blk1 (c1 := f.cs.toArray) hW4
          clear hW4 r0 r1 r2 r3 r4 r5 r6 r7 r8 r9 r10
          have bwc := BW.cell
          have bwl := BW.lt
          have MY := Lib.hid (fun w => refmay_any f w hf)
          obtain ⟨bm, hbm⟩ : ∃ bm, f.may = bm := ⟨_, rfl⟩
          rw [hbm] at MY
          have CN := Lib.hid (HRH.out.2.2.1.new hbW4 BW (Nat.le_refl _))
          by_cases hm' : m < 3
          · have hmI : (m : Int) < 3 := by omega
            have HRH2 := Lib.hid HRH.out
            go_wp2_with fail
            refine (MY.out _).mono ?_
            rintro e w5 ⟨rfl, b5⟩
            have C5 := Lib.hid (CN.out.below b5)
            cases bm with
            | false =>
              have FIN : Hid (∃ (j' m' : Nat) (s : Nat → Bx), j' ≤ nk ∧ Value.int .i64 ((j : Int) + 1) = .int .i64 j' ∧ Value.int .i64 (m : Int) = .int .i64 m' ∧ m' ≤ 3 ∧ R2 Ad ns cs w q r (some ⟨g, o, none⟩) A' t k n m' s w5) := Lib.hid ⟨j + 1, m, s1, by omega, by simp, rfl, hm3, HRH.out.1, HRH.out.2.1, C5.out.mono (fun _ h => .tail _ h), HRH.out.2.2.2.1, HRH.out.2.2.2.2⟩
              clear CN MY hbm BW C5 bwc bwl
              go_wp2_with fail
              go_roundw
              case rel => exact FIN.out
              case measure => simp [intOf]; omega
            | true =>
              obtain ⟨hE0, hK2, hL2⟩ := rk_send hq HRH.out.2.2.2.1 hlt hbm (by rw [HRH.out.2.1]; exact hm')
              have FIN : Hid (∀ wx, CG w (KX Ad ns cs w) q r (some ⟨g, o, none⟩) A' (upd s1 (q k) (sendX (s1 (q k)) f)) t wx → ∃ (j' m' : Nat) (s : Nat → Bx), j' ≤ nk ∧ Value.int .i64 ((j : Int) + 1) = .int .i64 j' ∧ Value.int .i64 ((m : Int) + 1) = .int .i64 m' ∧ m' ≤ 3 ∧ R2 Ad ns cs w q r (some ⟨g, o, none⟩) A' t k n m' s wx) := Lib.hid fun wx hwx => ⟨j + 1, m + 1, _, by omega, by simp, by simp, by omega, by
                have l0 := hL2 0 (by decide)
                have l1 := hL2 1 (by decide)
                have l2 := hL2 2 (by decide)
                have h1 := HRH.out.1
                have h2 := HRH.out.2.1
                unfold tot at h1 ⊢
                rw [l0, l1, l2]
                rcases (by omega : k = 0 ∨ k = 1 ∨ k = 2) with rfl | rfl | rfl <;> simp <;> omega, by rw [hL2 k hlt, if_pos rfl, HRH.out.2.1], hwx, hK2, fun i h1 h2 => by
                have := hL2 i h2
                rw [if_neg (by omega), HRH.out.2.2.2.2 i h1 h2] at this
                exact List.eq_nil_of_length_eq_zero this⟩
              have HRR : ∀ j w', CG w ((wr.heap.size, 26, f.cs.toArray) :: KX Ad ns cs w) q r (some ⟨g, o, none⟩) A' (if j = 0 then s1 else upd s1 (q k) (sendX (s1 (q k)) f)) t w' → (∀ i, w'.cell? ⟨wr.heap.size, i, none⟩ = f.cs.toArray[i]?) ∧ w'.cell? ⟨g, o + k, none⟩ = some (.pointer (some ⟨q k, 0, none⟩)) := fun j w' h => ⟨(h.blk (.head _)).cell, h.nc hlt⟩
              clear CN MY BW hK2 hL2
              go_wp2_with fail
              refine wp_region_s [5] ((fun j w' => CG w ((wr.heap.size, 26, f.cs.toArray) :: KX Ad ns cs w) q r (some ⟨g, o, none⟩) A' (if j = 0 then s1 else upd s1 (q k) (sendX (s1 (q k)) f)) t w')) (by kernel_rfl) (by kernel_rfl) (C5.out.below (Below.refl _ _).drew) ?_
              first
                | (refine wpS_skip (by rfl) (by rfl) ?_; try simp only [Act.put, List.setIfInBounds_toArray, List.set_cons_zero, List.set_cons_succ, Nat.reduceAdd])
                | (refine wpS_val (v := ?_) HRR (by rfl) (by rfl) ?_ ?_; rotate_left; · (intro w' hS; go_simp; first | done | with_reducible rfl)
                   try simp only [Act.put, List.setIfInBounds_toArray, List.set_cons_zero, List.set_cons_succ, Nat.reduceAdd])
              first
                | (refine wpS_skip (by rfl) (by rfl) ?_; try simp only [Act.put, List.setIfInBounds_toArray, List.set_cons_zero, List.set_cons_succ, Nat.reduceAdd])
                | (refine wpS_val (v := ?_) HRR (by rfl) (by rfl) ?_ ?_; rotate_left; · (intro w' hS; go_simp; first | done | with_reducible rfl)
                   try simp only [Act.put, List.setIfInBounds_toArray, List.set_cons_zero, List.set_cons_succ, Nat.reduceAdd])
              first
                | (refine wpS_skip (by rfl) (by rfl) ?_; try simp only [Act.put, List.setIfInBounds_toArray, List.set_cons_zero, List.set_cons_succ, Nat.reduceAdd])
                | (refine wpS_val (v := ?_) HRR (by rfl) (by rfl) ?_ ?_; rotate_left; · (intro w' hS; go_simp; first | done | with_reducible rfl)
                   try simp only [Act.put, List.setIfInBounds_toArray, List.set_cons_zero, List.set_cons_succ, Nat.reduceAdd])
              first
                | (refine wpS_skip (by rfl) (by rfl) ?_; try simp only [Act.put, List.setIfInBounds_toArray, List.set_cons_zero, List.set_cons_succ, Nat.reduceAdd])
                | (refine wpS_val (v := ?_) HRR (by rfl) (by rfl) ?_ ?_; rotate_left; · (intro w' hS; go_simp; first | done | with_reducible rfl)
                   try simp only [Act.put, List.setIfInBounds_toArray, List.set_cons_zero, List.set_cons_succ, Nat.reduceAdd])
              first
                | (refine wpS_skip (by rfl) (by rfl) ?_; try simp only [Act.put, List.setIfInBounds_toArray, List.set_cons_zero, List.set_cons_succ, Nat.reduceAdd])
                | (refine wpS_val (v := ?_) HRR (by rfl) (by rfl) ?_ ?_; rotate_left; · (intro w' hS; go_simp; first | done | with_reducible rfl)
                   try simp only [Act.put, List.setIfInBounds_toArray, List.set_cons_zero, List.set_cons_succ, Nat.reduceAdd])
              first
                | (refine wpS_chain (v := ?_) (f := ?_) (args := ?_) 0 (by kernel_rfl) rfl (by intro p hp; first | omega | (obtain rfl : p = 0 := (by omega); exact ⟨_, rfl, by kernel_rfl⟩)) (of_decide_eq_true (by kernel_rfl)) (by rfl) HRR ?_ ?_ ?_; rotate_left 3
                   · (intro w' hS; go_simp; first | done | (refine ⟨?_, ?_⟩ <;> with_reducible rfl) | with_reducible rfl)
                   · (intro w' hS; have hS' : CG w ((wr.heap.size, 26, f.cs.toArray) :: KX Ad ns cs w) q r (some ⟨g, o, none⟩) A' s1 t w' := hS; refine ((hS'.send hlt f hf).mono ?_); rintro e w3 ⟨rfl, h3⟩; rw [hE0]; refine ⟨?_, h3⟩; with_reducible rfl)
                   try simp only [Act.put, List.setIfInBounds_toArray, List.set_cons_zero, List.set_cons_succ, Nat.reduceAdd])
              first
                | (refine wpS_skip (by rfl) (by rfl) ?_; try simp only [Act.put, List.setIfInBounds_toArray, List.set_cons_zero, List.set_cons_succ, Nat.reduceAdd])
                | (refine wpS_val (v := ?_) HRR (by rfl) (by rfl) ?_ ?_; rotate_left; · (intro w' hS; go_simp; first | done | with_reducible rfl)
                   try simp only [Act.put, List.setIfInBounds_toArray, List.set_cons_zero, List.set_cons_succ, Nat.reduceAdd])
              refine wpS_done (by kernel_rfl) (fun w8 hS => ?_)
              have hS : CG w ((wr.heap.size, 26, f.cs.toArray) :: KX Ad ns cs w) q r (some ⟨g, o, none⟩) A' (upd s1 (q k) (sendX (s1 (q k)) f)) t w8 := hS
              have F8 := Lib.hid (FIN.out w8 (hS.mono (fun _ h => .tail _ h)))
              clear FIN HRR hS C5 hE0
              go_wp2_with fail
              go_roundw
              case rel => exact F8.out
              case measure => simp [intOf]; omega
          · have hmI : ¬ (m : Int) < 3 := by omega
            have FIN : Hid (∃ (j' m' : Nat) (s : Nat → Bx), j' ≤ nk ∧ Value.int .i64 ((j : Int) + 1) = .int .i64 j' ∧ Value.int .i64 (m : Int) = .int .i64 m' ∧ m' ≤ 3 ∧ R2 Ad ns cs w q r (some ⟨g, o, none⟩) A' t k n m' s W4) := Lib.hid ⟨j + 1, m, s1, by omega, by simp, rfl, hm3, HRH.out.1, HRH.out.2.1, HRH.out.2.2.1.below hbW4, HRH.out.2.2.2.1, HRH.out.2.2.2.2⟩
            clear CN MY hbm BW
            go_wp2_with fail
            go_roundw
            case rel => exact FIN.out
            case measure => simp [intOf]; omega
        · have hne : ¬ ((j : Int) < nk) := by omega
          have hn9' : n + m ≤ 9 := by
            obtain ⟨h1, h2, h3, h4⟩ := HR
            have l0 := (h3.txwf (i := 0) (by decide)).1
            have l1 := (h3.txwf (i := 1) (by decide)).1
            have l2 := (h3.txwf (i := 2) (by decide)).1
            unfold tot at h1
            omega
          have FIN : Hid (∃ (k' n' : Nat) (s : Nat → Bx), k' ≤ 3 ∧ Value.int .i64 ((k : Int) + 1) = .int .i64 k' ∧ Value.int .i64 ((n : Int) + m) = .int .i64 n' ∧ n' ≤ 9 ∧ R1 Ad ns cs w q r (some ⟨g, o, none⟩) A' t k' n' s wr) := Lib.hid ⟨k + 1, n + m, s1, by omega, by simp, by simp, hn9', HR.1, HR.2.2.1, HR.2.2.2.1, HR.2.2.2.2⟩
          clear HR
          go_wp2_with fail
          go_roundw
          case rel => exact FIN.out
          case measure => simp [intOf]; omega
    · obtain rfl : k = 3 := by omega
      simp only [show ((3 : Nat) : Int) = 3 from rfl]
      have HRk : ∀ i, i < 3 → ∀ x ∈ (s (q i)).tx, 0 ≤ x.rank := fun i hi x hx => rank_ge ((HCr.txwf hi).2 x hx)
      have HS0 : Hid (R3 Ad ns cs w q r (some ⟨g, o, none⟩) A' t n 0 0 0 s wr) := Lib.hid ⟨by omega, HCr, HK, Aft.start s q HRk⟩
      have hn9' : (n : Int) ≤ 9 := by omega
      clear HT HCr HK HE HRk HX hlt
      go_wp2_with fail
      go_loopw [57, 11, 12] (fun iv lv ov wr => ∃ (k i : Nat) (L : Int) (s : Nat → Bx), k ≤ n ∧ iv = .int .i64 k ∧ lv = .int .u32 L ∧ ov = .int .i64 i ∧ R3 Ad ns cs w q r (some ⟨g, o, none⟩) A' t n k L i s wr) (fun iv _ _ _ => n - (intOf iv).toNat)
      case atStart => exact ⟨0, 0, 0, s, Nat.zero_le _, rfl, rfl, rfl, HS0.out⟩
      case round =>
        obtain ⟨j, who, L, s1, hj, rfl, rfl, rfl, HT, HC, HK, HA⟩ := hrel
        clear HS0
        by_cases hltj : j < n
        · have hltj' : (j : Int) < n := by omega
          obtain ⟨i, f, hi3, hV, hmem, hK2, hT2, hA2⟩ := rk_turn (n := n - (j + 1)) hq HK (by omega)
          have hf := (HC.txwf hi3).2 f hmem
          have hLf := HA i hi3 f hmem
          have TN := HC.turn false hc3 hcm
          rw [hV] at TN
          have TN := Lib.hid TN
          have FIN : Hid (∀ wx, CG w (KX Ad ns cs w) q r (some ⟨g, o, none⟩) A' (turnS (nodesL q) s1 3 false) t wx → ∃ (k i' : Nat) (L : Int) (s : Nat → Bx), k ≤ n ∧ Value.int .i64 ((j : Int) + 1) = .int .i64 k ∧ Value.int .u32 f.rank = .int .u32 L ∧ Value.int .i64 (i : Int) = .int .i64 i' ∧ R3 Ad ns cs w q r (some ⟨g, o, none⟩) A' t n k L i' s wx) := Lib.hid fun wx h => ⟨j + 1, i, f.rank, _, by omega, by simp, rfl, rfl, hT2, h, hK2, hA2⟩
          have RKC := Lib.hid (fun w => refrank_any f w hf)
          obtain ⟨R, hR⟩ : ∃ R, f.rank = R := ⟨_, rfl⟩
          rw [hR] at RKC FIN hLf
          have hiI : ¬ ((i : Int) < 0) := by omega
          have hiI2 : ¬ ((i : Int) > 2) := by omega
          have hiI3 : ¬ ((2 : Int) < (i : Int)) := by omega
          have hRL : ¬ (R < L) := by rcases hLf with h | h <;> omega
          clear hR HT HC HK HA hV hmem hK2 hT2 hA2
          go_wp2_with fail
          refine TN.out.mono ?_
          rintro e w3 ⟨rfl, h3⟩
          have h3H := Lib.hid h3
          clear h3 TN
          go_upto_region 22 with fail
          refine wp_named fun W5 hW5 => ?_
          obtain ⟨BW, hbW5⟩ := blk1 (c1 := f.cs.toArray) hW5
          clear hW5
          have bw5 := BW.cell
          rcases (by omega : R = L ∨ L < R) with hRe | hRe
          · have hwI : ¬ ((i : Int) < (who : Int)) := by rcases hLf with h | h <;> omega
            have heqI : (R == L) = true := by rw [hRe]; simp
            clear hLf
            go_wp2_with fail
            refine (RKC.out _).mono ?_
            rintro e w6 ⟨rfl, b6⟩
            have bw6 := (BW.below b6).cell
            go_wp2_with fail
            refine (RKC.out _).mono ?_
            rintro e w7 ⟨rfl, b7⟩
            have bw7 := ((BW.below b6).below b7).cell
            go_wp2_with fail
            refine (RKC.out _).mono ?_
            rintro e w8 ⟨rfl, b8⟩
            have FF := Lib.hid (FIN.out w8 (((h3H.out.below hbW5).below b6).below b7 |>.below b8))
            clear FIN
            go_wp2_with fail
            go_roundw
            case rel => first | exact FF.out | (have h := FF.out; rw [hRe] at h; exact h)
            case measure => simp [intOf]; omega
          · have heqI : (R == L) = false := by simp; omega
            have hne : ¬ (R = L) := by omega
            clear hLf
            go_wp2_with fail
            refine (RKC.out _).mono ?_
            rintro e w6 ⟨rfl, b6⟩
            have bw6 := (BW.below b6).cell
            go_wp2_with fail
            refine (RKC.out _).mono ?_
            rintro e w7 ⟨rfl, b7⟩
            have bw7 := ((BW.below b6).below b7).cell
            go_wp2_with fail
            refine (RKC.out _).mono ?_
            rintro e w8 ⟨rfl, b8⟩
            have FF := Lib.hid (FIN.out w8 (((h3H.out.below hbW5).below b6).below b7 |>.below b8))
            clear FIN
            go_wp2_with fail
            go_roundw
            case rel => first | exact FF.out | (have h := FF.out; rw [hRe] at h; exact h)
            case measure => simp [intOf]; omega
        · have hjn : ¬ ((j : Int) < n) := by omega
          obtain rfl : j = n := by omega
          have hT0 : tot s1 q = 0 := by omega
          have TN := HC.turn false hc3 hcm
          rw [(rk_end hT0).1, (rk_end hT0).2] at TN
          have TN := Lib.hid TN
          have HL : Hid (∀ i, i < 3 → (s1 (q i)).tx.length = 0) := Lib.hid fun i hi => by
            unfold tot at hT0
            rcases (by omega : i = 0 ∨ i = 1 ∨ i = 2) with rfl | rfl | rfl <;> omega
          clear HT HC HK HA hT0
          go_wp2_with fail
          refine TN.out.mono ?_
          rintro e w3 ⟨rfl, h3⟩
          have h3H := Lib.hid h3
          clear h3 TN
          go_upto_region 27 with fail
          refine wp_named fun W6 hW6 => ?_
          obtain ⟨BW, hbW6⟩ := blk1 (c1 := Fr.none_.cs.toArray) hW6
          clear hW6 BW
          have H6 := Lib.hid (h3H.out.below hbW6)
          have hb6 := H6.out.bel
          have N0 := fun w' (hb : Below W6.heap.size W6 w') => (H6.out.below hb).nc (i := 0) (by decide)
          have N1 := fun w' (hb : Below W6.heap.size W6 w') => (H6.out.below hb).nc (i := 1) (by decide)
          have N2 := fun w' (hb : Below W6.heap.size W6 w') => (H6.out.below hb).nc (i := 2) (by decide)
          have WT : ∀ i, i < 3 → ∀ w', Below W6.heap.size W6 w' → Calls Try.prog 21 #[.pointer (some ⟨q i, 0, none⟩)] w' fun e w2 => e = .returned (.int .i64 0) ∧ w' = w2 := fun i hi w' hb => by
            have := (H6.out.below hb).wait hi
            rw [HL.out i hi] at this
            exact this
          have WT0 := Lib.hid (WT 0 (by decide))
          have WT1 := Lib.hid (WT 1 (by decide))
          have WT2 := Lib.hid (WT 2 (by decide))
          clear WT HL h3H
          try rw [Nat.add_zero] at N0
          go_wp2_with fail
          refine wp_region_c (fun w' => Below W6.heap.size W6 w') (by kernel_rfl) (by kernel_rfl) ((Below.refl _ _).drew) ?_
          repeat (first
            | (refine wpL_skip (by rfl) ?_; try simp only [Act.put, List.setIfInBounds_toArray, List.set_cons_zero, List.set_cons_succ, Nat.reduceAdd])
            | (refine wpL_val (v := ?_) (by rfl) ?_ ?_; rotate_left; · (intro w' hS; go_simp; first | done | with_reducible rfl)
               try simp only [Act.put, List.setIfInBounds_toArray, List.set_cons_zero, List.set_cons_succ, Nat.reduceAdd])
            | (refine wpL_call (v := ?_) (f := ?_) (args := ?_) (by rfl) ?_ ?_ ?_; rotate_left 3
               · (intro w' hS; go_simp; first | done | (refine ⟨?_, ?_⟩ <;> with_reducible rfl) | with_reducible rfl)
               · (intro w' hS; first
                   | ((with_reducible refine (WT0.out w' hS).mono ?_); rintro e w2 ⟨rfl, rfl⟩; refine ⟨?_, hS⟩; with_reducible rfl)
                   | ((with_reducible refine (WT1.out w' hS).mono ?_); rintro e w2 ⟨rfl, rfl⟩; refine ⟨?_, hS⟩; with_reducible rfl)
                   | ((with_reducible refine (WT2.out w' hS).mono ?_); rintro e w2 ⟨rfl, rfl⟩; refine ⟨?_, hS⟩; with_reducible rfl))
               try simp only [Act.put, List.setIfInBounds_toArray, List.set_cons_zero, List.set_cons_succ, Nat.reduceAdd]))
          refine wpL_done (fun w8 hS => ?_)
          go_wp2_with fail
          go_ret
          exact ⟨rfl, hb6.trans (hS.mono hb6.size)⟩
end Go.Proofs.Ytbmkfjgodgmjnaa
