/- BusOnce: the walk. -/
import Derived.Test.YtbmkfjgodgmjnaaDE
import Derived.Test.YtbmkfjgodgmjnaaChain
import Derived.Test.YtbmkfjgodgmjnaaConf
import Derived.Deep.RegionHeldLaw
namespace Go.Proofs.Ytbmkfjgodgmjnaa
open Go.RowKit
set_option linter.unusedVariables false
set_option linter.unusedSimpArgs false
section
variable {P : Program} {md : Region.Mode} {ops : Array Oper} {Q : Exit → Act → World → Prop} {ch : List Nat} {Pr : Nat → World → Prop} {R : World → Prop} {k : Nat} {a : Act} {o : Oper} {rest : List Oper} {v : Value}
/-- One of the chain that leaves a value, and the world as it was. -/
theorem wpS_vstep (s : Nat) (hl : linkB md ops ch = true) (hc : ch[s]? = some k) (hd : (∀ p, s = p + 1 → ∃ j, ch[p]? = some j ∧ (o.after.any fun e => Region.binds md e && e.on == j) = true)) (hz : k < ops.size)
    (hw : Region.wanted o (yielded ops a.tmps) = true) (hR : ∀ s w, Pr s w → R w) (h : ∀ w, R w → (execOp a.eval o).run P w = .ok (.value v) w)
    (hp : ∀ w, Pr s w → Pr (s + 1) w) (hn : wpL P md ops Q (SCh ops ch Pr) (k + 1) rest (a.put o.dst v)) : wpL P md ops Q (SCh ops ch Pr) k (o :: rest) a :=
  wpS_step s hl hc hd hz (fun w hw' => .inl ⟨hw, by
    unfold Oper.wp
    rw [h w (hR _ w hw')]
    exact ⟨rfl, hp w hw'⟩⟩) (fun h' => by rw [hw] at h'; cases h') hn
end
/-- The state while frames are sent. -/
def O1 (Ad : Nat → Option Addr) (ns cs : Nat → Nat) (w : World) (gz : Nat) (q r : Nat → Nat) (A A' : Option Addr) (t : Nat → Bx) (v : Value) (w' : World) : Prop :=
  ∃ S c l s, v = .slice S l.length c ∧ CW w (KZ Ad ns cs gz) q r A A' t S c l s w' ∧ ON s q l 0
/-- The state while frames go. -/
def O3 (Ad : Nat → Option Addr) (ns cs : Nat → Nat) (w : World) (gz : Nat) (q r : Nat → Nat) (A A' : Option Addr) (t : Nat → Bx) (n m : Nat) (v : Value) (w' : World) : Prop :=
  ∃ S c l s, v = .slice S l.length c ∧ CW w (KZ Ad ns cs gz) q r A A' t S c l s w' ∧ ON s q l m ∧ l.length = n
set_option maxRecDepth 100000 in
set_option maxHeartbeats 4000000 in
theorem once_any (Ad : Nat → Option Addr) (ns cs : Nat → Nat) (xs : Nat → List Fr) (w : World)
    (hx : ∀ i, i < 2 → (xs i).length = ns i ∧ ns i ≤ cs i ∧ cs i ≤ maxLen ∧ (Ad i = none → ns i = 0 ∧ cs i = 0) ∧ Rd w w.heap.size (Ad i) (fcells (xs i)) ∧ ∀ x ∈ xs i, x.wf) :
    Calls Try.prog 13 #[.slice (Ad 0) (ns 0) (cs 0), .slice (Ad 1) (ns 1) (cs 1)] w fun e w' => e = .returned (.bool true) ∧ Below w.heap.size w w' := by
  have HX := Lib.hid hx
  clear hx
  go_enter Try.func13, Try.ntmps13
  go_wp2_with fail
  refine (bshown_any _).mono ?_
  rintro e w1 ⟨rfl, b1⟩
  have z1 := b1.size
  go_wp2_with fail
  refine calls_named fun W hW => ?_
  obtain ⟨BX, hbW⟩ := blk1 (c1 := #[.int .u32 0, .int .u32 0, .bool false, .int .u32 0, .int .u32 0, .bool true]) hW
  have hb1 := b1.trans (hbW.mono z1)
  have hRX : Rd W W.heap.size (some ⟨w1.heap.size, 0, none⟩) (flcells flA) := Blk.rd BX
  clear hW
  have NQ := nodes_q w.heap.size w (fun _ => (0, 9)) W hb1.size (fun _ _ => rfl) (fun _ h => by simp at h) hb1 (Nat.le_refl _) (fun i => if i = 2 then some ⟨w1.heap.size, 0, none⟩ else none) (fun i => if i = 2 then 2 else 0) (fun i => if i = 2 then 2 else 0) ofl (fun i hi => by
    rcases (by omega : i = 0 ∨ i = 1 ∨ i = 2) with rfl | rfl | rfl
    · exact ⟨rfl, Nat.le_refl _, by unfold maxLen; decide, fun _ => ⟨rfl, rfl⟩, Rd.nil, fun x h => by cases h⟩
    · exact ⟨rfl, Nat.le_refl _, by unfold maxLen; decide, fun _ => ⟨rfl, rfl⟩, Rd.nil, fun x h => by cases h⟩
    · refine ⟨rfl, Nat.le_refl _, by unfold maxLen; decide, fun h => by simp at h, hRX, fun x h => ?_⟩
      simp only [ofl, if_true, List.mem_cons, List.not_mem_nil, or_false] at h
      rcases h with rfl | rfl <;> exact ⟨by decide, by decide, by decide, by decide⟩)
  have NQ : Calls Try.prog 36 #[.agg #[.slice none 0 0, .slice none 0 0, .slice (some ⟨w1.heap.size, 0, none⟩) 2 2]] W (NodesQ w.heap.size w ofl (fun _ => (0, 9)) W) := NQ
  refine NQ.mono ?_
  rintro e w2 ⟨A, cn, q, A', cn', r, s0, t, Φ1, rfl, hc3, hcm, hc3', hcm', hq, hr, hs, -, N1, hb2, hΦ⟩
  have HC1 : CW w [] q r A A' t none 0 [] s0 w2 := ⟨Φ1, N1, (fun k hk => by cases hk), OwC.nil _ _ _ _ _ _⟩
  have K0 : ON s0 q [] 0 := on_start fun i hi => by rw [hs i hi, List.take_of_length_le (by unfold ofl; split <;> decide)]
  clear N1 hb2 hΦ NQ hs hb1 hRX BX hbW b1 z1
  obtain ⟨g, o, rfl⟩ := HC1.ad
  have HC := Lib.hid HC1
  clear HC1
  have hcI : (3 : Int) ≤ cn := by omega
  go_upto_region 5 with fail
  refine wp_named fun W3 hW3 => ?_
  obtain ⟨BZ, hbW3⟩ := blk1 (c1 := #[.slice (Ad 0) (ns 0) (cs 0), .slice (Ad 1) (ns 1) (cs 1)]) hW3
  obtain ⟨gz, hgz⟩ : ∃ gz, w2.heap.size = gz := ⟨_, rfl⟩
  have HR0 : Hid (O1 Ad ns cs w gz q r (some ⟨g, o, none⟩) A' t (.slice none 0 0) W3) := Lib.hid ⟨none, 0, [], s0, rfl, by unfold KZ; rw [← hgz]; exact HC.out.new hbW3 BZ (Nat.le_refl _), K0⟩
  rw [hgz]
  clear HC K0 BZ hbW3 hW3 hgz
  go_loopw [34, 8] (fun iv sv wr => ∃ (k : Nat), k ≤ 2 ∧ iv = .int .i64 k ∧ O1 Ad ns cs w gz q r (some ⟨g, o, none⟩) A' t sv wr) (fun iv _ _ => 2 - (intOf iv).toNat)
  case atStart => exact ⟨0, by decide, rfl, HR0.out⟩
  case round =>
    obtain ⟨k, hk, rfl, S, c, l, s, rfl, HCr, HK⟩ := hrel
    clear HR0
    by_cases hlt : k < 2
    · have hlt' : (k : Int) < 2 := by omega
      obtain ⟨g1, g2, g3, g4, g5, g6⟩ := HX.out k hlt
      obtain ⟨nk, hnk⟩ : ∃ n, ns k = n := ⟨_, rfl⟩
      obtain ⟨ck, hck⟩ : ∃ n, cs k = n := ⟨_, rfl⟩
      obtain ⟨Ak, hAk⟩ : ∃ n, Ad k = n := ⟨_, rfl⟩
      have bk : wr.cell? ⟨gz, k, none⟩ = some (.slice (Ad k) (ns k) (cs k)) := by
        rw [(HCr.blk (by unfold KZ; exact .head _)).cell]
        rcases (by omega : k = 0 ∨ k = 1) with rfl | rfl <;> rfl
      rw [hnk] at g1 g2 g4
      rw [hck] at g2 g3 g4
      rw [hAk] at g4 g5
      rw [hnk, hck, hAk] at bk
      unfold maxLen at g3
      have hwfs := Lib.hid g6
      have HL := Lib.hid g1
      have HRd := Lib.hid g5
      have HA := Lib.hid g4
      have HH : Hid (O1 Ad ns cs w gz q r (some ⟨g, o, none⟩) A' t (.slice S l.length c) wr) := Lib.hid ⟨S, c, l, s, rfl, HCr, HK⟩
      obtain ⟨V, hV⟩ : ∃ V, Value.slice S l.length c = V := ⟨_, rfl⟩
      rw [hV] at HH ⊢
      clear g1 g4 g5 g6 HCr HK hnk hck hAk hV
      go_wp2_with fail
      go_loopw [41, 8] (fun iv sv wr => ∃ (j : Nat), j ≤ nk ∧ iv = .int .i64 j ∧ O1 Ad ns cs w gz q r (some ⟨g, o, none⟩) A' t sv wr) (fun iv _ _ => nk - (intOf iv).toNat)
      case atStart => exact ⟨0, Nat.zero_le _, rfl, HH.out⟩
      case round =>
        obtain ⟨j, hj, rfl, S, c, l, s1, rfl, HR, HK⟩ := hrel
        clear HH bk
        by_cases hltj : j < nk
        · have hltj' : (j : Int) < nk := by omega
          obtain ⟨f, ht⟩ : ∃ t, (xs k)[j]? = some t := ⟨_, List.getElem?_eq_getElem (by rw [HL.out]; exact hltj)⟩
          have hf := hwfs.out f (List.mem_of_getElem? ht)
          have hne : fcells (xs k) ≠ [] := by intro h; have h2 := fcells_len (xs k); rw [h, HL.out] at h2; simp at h2; omega
          obtain ⟨gx, ox, ea, hbl, hcl⟩ := (HRd.out.below HR.bel) hne
          have hc' : ∀ i u, f.cs[i]? = some u → wr.cell? ⟨gx, ox + (j * 11 + i), none⟩ = some u := fun i u hu => hcl _ _ (fcells_get (xs k) j f ht i u hu)
          have r0 := hc' 0 _ rfl
          have r1 := hc' 1 _ rfl
          have r2 := hc' 2 _ rfl
          have r3 := hc' 3 _ rfl
          have r4 := hc' 4 _ rfl
          have r5 := hc' 5 _ rfl
          have r6 := hc' 6 _ rfl
          have r7 := hc' 7 _ rfl
          have r8 := hc' 8 _ rfl
          have r9 := hc' 9 _ rfl
          have r10 := hc' 10 _ rfl
          rw [Nat.add_zero] at r0
          rw [← Nat.add_assoc] at r1 r2 r3 r4 r5 r6 r7 r8 r9 r10
          clear hc' hcl ht hne
          subst ea
          have HRH := Lib.hid HR
          have HKH := Lib.hid HK
          have hx3 := HR.tx3 (i := k) (by omega)
          have hk3I : (k : Int) < 3 := by omega
          clear HR HK
          go_upto_region 10 with fail
          refine wp_named fun W4 hW4 => ?_
          obtain ⟨BW, hbW4⟩ := blk1 (c1 := f.cs.toArray) hW4
          clear hW4 r0 r1 r2 r3 r4 r5 r6 r7 r8 r9 r10
          have CN := Lib.hid (HRH.out.new hbW4 BW (Nat.le_refl _))
          have FIN : Hid (∀ wx S c l s v, v = Value.slice S l.length c → CW w (KZ Ad ns cs gz) q r (some ⟨g, o, none⟩) A' t S c l s wx → ON s q l 0 → ∃ (j' : Nat), j' ≤ nk ∧ Value.int .i64 ((j : Int) + 1) = .int .i64 j' ∧ O1 Ad ns cs w gz q r (some ⟨g, o, none⟩) A' t v wx) := Lib.hid fun wx S c l s v h0 h1 h2 => ⟨j + 1, by omega, by simp, S, c, l, s, h0, h1, h2⟩
          obtain ⟨tx, htx⟩ : ∃ tx, (s1 (q k)).tx.length = tx := ⟨_, rfl⟩
          rw [htx] at hx3
          have hx3' : (tx : Int) ≤ 3 := by omega
          have HTX := Lib.hid htx
          clear htx
          by_cases hm' : tx < 3
          · have hmI : decide ((tx : Int) < 3) = true := decide_eq_true (by omega)
            have hmJ : (tx : Int) < 3 := by omega
            have HRR : ∀ j w', (fun j w' => CW w ((wr.heap.size, 26, f.cs.toArray) :: KZ Ad ns cs gz) q r (some ⟨g, o, none⟩) A' t S c l (if j = 4 then upd s1 (q k) (sendX (s1 (q k)) f) else s1) w') j w' → (∀ i, w'.cell? ⟨wr.heap.size, i, none⟩ = f.cs.toArray[i]?) ∧ w'.cell? ⟨g, o + k, none⟩ = some (.pointer (some ⟨q k, 0, none⟩)) := fun j w' h => ⟨(h.blk (.head _)).cell, h.nc (by omega)⟩
            cases hbm : f.may with
            | false =>
              obtain ⟨hE0, hU⟩ := on_skip (s := s1) (q := q) (i := k) hbm
              clear hbm BW
              go_wp2_with fail
              refine wp_region_s [4, 5, 6, 12] ((fun j w' => CW w ((wr.heap.size, 26, f.cs.toArray) :: KZ Ad ns cs gz) q r (some ⟨g, o, none⟩) A' t S c l (if j = 4 then upd s1 (q k) (sendX (s1 (q k)) f) else s1) w')) (by kernel_rfl) (by kernel_rfl) (CN.out.below (Below.refl _ _).drew) ?_
              first
                | (refine wpS_skip (by rfl) (by rfl) ?_; try simp only [Act.put, List.setIfInBounds_toArray, List.set_cons_zero, List.set_cons_succ, Nat.reduceAdd])
                | (refine wpS_val (v := ?_) HRR (by rfl) (by rfl) ?_ ?_; rotate_left; · (intro w' hS; go_simp; first | done | with_reducible rfl)
                   try simp only [Act.put, List.setIfInBounds_toArray, List.set_cons_zero, List.set_cons_succ, Nat.reduceAdd])
              first
                | (refine wpS_skip (by rfl) (by rfl) ?_; try simp only [Act.put, List.setIfInBounds_toArray, List.set_cons_zero, List.set_cons_succ, Nat.reduceAdd])
                | (refine wpS_val (v := ?_) HRR (by rfl) (by rfl) ?_ ?_; rotate_left; · (intro w' hS; go_simp; first | done | with_reducible rfl)
                   try simp only [Act.put, List.setIfInBounds_toArray, List.set_cons_zero, List.set_cons_succ, Nat.reduceAdd])
              first
                | (refine wpS_skip (by rfl) (by rfl) ?_; try simp only [Act.put, List.setIfInBounds_toArray, List.set_cons_zero, List.set_cons_succ, Nat.reduceAdd])
                | (refine wpS_val (v := ?_) HRR (by rfl) (by rfl) ?_ ?_; rotate_left; · (intro w' hS; go_simp; first | done | with_reducible rfl)
                   try simp only [Act.put, List.setIfInBounds_toArray, List.set_cons_zero, List.set_cons_succ, Nat.reduceAdd])
              first
                | (refine wpS_skip (by rfl) (by rfl) ?_; try simp only [Act.put, List.setIfInBounds_toArray, List.set_cons_zero, List.set_cons_succ, Nat.reduceAdd])
                | (refine wpS_val (v := ?_) HRR (by rfl) (by rfl) ?_ ?_; rotate_left; · (intro w' hS; go_simp; first | done | with_reducible rfl)
                   try simp only [Act.put, List.setIfInBounds_toArray, List.set_cons_zero, List.set_cons_succ, Nat.reduceAdd])
              first
                | (refine wpS_chain (v := ?_) (f := ?_) (args := ?_) 0 (by kernel_rfl) rfl (by intro p hp; first | omega | (obtain rfl : p = 0 := (by omega); exact ⟨_, rfl, by kernel_rfl⟩)) (of_decide_eq_true (by kernel_rfl)) (by rfl) HRR ?_ ?_ ?_; rotate_left 3
                   · (intro w' hS; go_simp; first | done | (refine ⟨?_, ?_⟩ <;> with_reducible rfl) | with_reducible rfl)
                   · (intro w' hS; have hS' : CW w ((wr.heap.size, 26, f.cs.toArray) :: KZ Ad ns cs gz) q r (some ⟨g, o, none⟩) A' t S c l s1 w' := hS; have hw := hS'.wait (i := k) (by omega); rw [HTX.out] at hw; refine hw.mono ?_; rintro e w3 ⟨rfl, rfl⟩; refine ⟨?_, hS'⟩; with_reducible rfl)
                   try simp only [Act.put, List.setIfInBounds_toArray, List.set_cons_zero, List.set_cons_succ, Nat.reduceAdd])
              refine wpS_vstep (v := ?_) 1 (by kernel_rfl) rfl (by intro p hp; first | omega | (obtain rfl : p = 0 := (by omega); exact ⟨_, rfl, by kernel_rfl⟩)) (of_decide_eq_true (by kernel_rfl)) (by rfl) HRR ?_ (fun w h => h) ?_
              rotate_left
              · intro w' hS
                go_simp
                first | done | with_reducible rfl
              try simp only [Act.put, List.setIfInBounds_toArray, List.set_cons_zero, List.set_cons_succ, Nat.reduceAdd]
              refine wpS_vstep (v := ?_) 2 (by kernel_rfl) rfl (by intro p hp; first | omega | (obtain rfl : p = 1 := (by omega); exact ⟨_, rfl, by kernel_rfl⟩)) (of_decide_eq_true (by kernel_rfl)) (by rfl) HRR ?_ (fun w h => h) ?_
              rotate_left
              · intro w' hS
                go_simp
                first | done | with_reducible rfl
              try simp only [Act.put, List.setIfInBounds_toArray, List.set_cons_zero, List.set_cons_succ, Nat.reduceAdd]
              first
                | (refine wpS_skip (by rfl) (by rfl) ?_; try simp only [Act.put, List.setIfInBounds_toArray, List.set_cons_zero, List.set_cons_succ, Nat.reduceAdd])
                | (refine wpS_val (v := ?_) HRR (by rfl) (by rfl) ?_ ?_; rotate_left; · (intro w' hS; go_simp; first | done | with_reducible rfl)
                   try simp only [Act.put, List.setIfInBounds_toArray, List.set_cons_zero, List.set_cons_succ, Nat.reduceAdd])
              first
                | (refine wpS_skip (by rfl) (by rfl) ?_; try simp only [Act.put, List.setIfInBounds_toArray, List.set_cons_zero, List.set_cons_succ, Nat.reduceAdd])
                | (refine wpS_val (v := ?_) HRR (by rfl) (by rfl) ?_ ?_; rotate_left; · (intro w' hS; go_simp; first | done | with_reducible rfl)
                   try simp only [Act.put, List.setIfInBounds_toArray, List.set_cons_zero, List.set_cons_succ, Nat.reduceAdd])
              first
                | (refine wpS_skip (by rfl) (by rfl) ?_; try simp only [Act.put, List.setIfInBounds_toArray, List.set_cons_zero, List.set_cons_succ, Nat.reduceAdd])
                | (refine wpS_val (v := ?_) HRR (by rfl) (by rfl) ?_ ?_; rotate_left; · (intro w' hS; go_simp; first | done | with_reducible rfl)
                   try simp only [Act.put, List.setIfInBounds_toArray, List.set_cons_zero, List.set_cons_succ, Nat.reduceAdd])
              first
                | (refine wpS_skip (by rfl) (by rfl) ?_; try simp only [Act.put, List.setIfInBounds_toArray, List.set_cons_zero, List.set_cons_succ, Nat.reduceAdd])
                | (refine wpS_val (v := ?_) HRR (by rfl) (by rfl) ?_ ?_; rotate_left; · (intro w' hS; go_simp; first | done | with_reducible rfl)
                   try simp only [Act.put, List.setIfInBounds_toArray, List.set_cons_zero, List.set_cons_succ, Nat.reduceAdd])
              first
                | (refine wpS_skip (by rfl) (by rfl) ?_; try simp only [Act.put, List.setIfInBounds_toArray, List.set_cons_zero, List.set_cons_succ, Nat.reduceAdd])
                | (refine wpS_val (v := ?_) HRR (by rfl) (by rfl) ?_ ?_; rotate_left; · (intro w' hS; go_simp; first | done | with_reducible rfl)
                   try simp only [Act.put, List.setIfInBounds_toArray, List.set_cons_zero, List.set_cons_succ, Nat.reduceAdd])
              first
                | (refine wpS_chain (v := ?_) (f := ?_) (args := ?_) 3 (by kernel_rfl) rfl (by intro p hp; first | omega | (obtain rfl : p = 2 := (by omega); exact ⟨_, rfl, by kernel_rfl⟩)) (of_decide_eq_true (by kernel_rfl)) (by rfl) HRR ?_ ?_ ?_; rotate_left 3
                   · (intro w' hS; go_simp; first | done | (refine ⟨?_, ?_⟩ <;> with_reducible rfl) | with_reducible rfl)
                   · (intro w' hS; have hS' : CW w ((wr.heap.size, 26, f.cs.toArray) :: KZ Ad ns cs gz) q r (some ⟨g, o, none⟩) A' t S c l s1 w' := hS; refine ((hS'.send (i := k) (by omega) f hf).mono ?_); rintro e w3 ⟨rfl, h3⟩; rw [hE0]; refine ⟨?_, h3⟩; with_reducible rfl)
                   try simp only [Act.put, List.setIfInBounds_toArray, List.set_cons_zero, List.set_cons_succ, Nat.reduceAdd])
              first
                | (refine wpS_skip (by rfl) (by rfl) ?_; try simp only [Act.put, List.setIfInBounds_toArray, List.set_cons_zero, List.set_cons_succ, Nat.reduceAdd])
                | (refine wpS_val (v := ?_) HRR (by rfl) (by rfl) ?_ ?_; rotate_left; · (intro w' hS; go_simp; first | done | with_reducible rfl)
                   try simp only [Act.put, List.setIfInBounds_toArray, List.set_cons_zero, List.set_cons_succ, Nat.reduceAdd])
              first
                | (refine wpS_skip (by rfl) (by rfl) ?_; try simp only [Act.put, List.setIfInBounds_toArray, List.set_cons_zero, List.set_cons_succ, Nat.reduceAdd])
                | (refine wpS_val (v := ?_) HRR (by rfl) (by rfl) ?_ ?_; rotate_left; · (intro w' hS; go_simp; first | done | with_reducible rfl)
                   try simp only [Act.put, List.setIfInBounds_toArray, List.set_cons_zero, List.set_cons_succ, Nat.reduceAdd])
              refine wpS_done (by kernel_rfl) (fun w8 hS => ?_)
              have hS : CW w ((wr.heap.size, 26, f.cs.toArray) :: KZ Ad ns cs gz) q r (some ⟨g, o, none⟩) A' t S c l (upd s1 (q k) (sendX (s1 (q k)) f)) w8 := hS
              rw [hU] at hS
              have FF := Lib.hid (FIN.out w8 S c l s1 _ rfl (hS.mono (fun _ h => .tail _ h)) HKH.out)
              clear FIN hU hE0 hS HRR CN
              go_wp2_with fail
              go_roundw
              case rel => exact FF.out
              case measure => simp [intOf]; omega
            | true =>
              obtain ⟨hE0, hO⟩ := on_send hq HKH.out hlt hf hbm (by rw [HTX.out]; exact hm')
              have HO := Lib.hid hO
              clear hO hbm BW
              go_wp2_with fail
              refine wp_region_s [4, 5, 6, 12] ((fun j w' => CW w ((wr.heap.size, 26, f.cs.toArray) :: KZ Ad ns cs gz) q r (some ⟨g, o, none⟩) A' t S c l (if j = 4 then upd s1 (q k) (sendX (s1 (q k)) f) else s1) w')) (by kernel_rfl) (by kernel_rfl) (CN.out.below (Below.refl _ _).drew) ?_
              first
                | (refine wpS_skip (by rfl) (by rfl) ?_; try simp only [Act.put, List.setIfInBounds_toArray, List.set_cons_zero, List.set_cons_succ, Nat.reduceAdd])
                | (refine wpS_val (v := ?_) HRR (by rfl) (by rfl) ?_ ?_; rotate_left; · (intro w' hS; go_simp; first | done | with_reducible rfl)
                   try simp only [Act.put, List.setIfInBounds_toArray, List.set_cons_zero, List.set_cons_succ, Nat.reduceAdd])
              first
                | (refine wpS_skip (by rfl) (by rfl) ?_; try simp only [Act.put, List.setIfInBounds_toArray, List.set_cons_zero, List.set_cons_succ, Nat.reduceAdd])
                | (refine wpS_val (v := ?_) HRR (by rfl) (by rfl) ?_ ?_; rotate_left; · (intro w' hS; go_simp; first | done | with_reducible rfl)
                   try simp only [Act.put, List.setIfInBounds_toArray, List.set_cons_zero, List.set_cons_succ, Nat.reduceAdd])
              first
                | (refine wpS_skip (by rfl) (by rfl) ?_; try simp only [Act.put, List.setIfInBounds_toArray, List.set_cons_zero, List.set_cons_succ, Nat.reduceAdd])
                | (refine wpS_val (v := ?_) HRR (by rfl) (by rfl) ?_ ?_; rotate_left; · (intro w' hS; go_simp; first | done | with_reducible rfl)
                   try simp only [Act.put, List.setIfInBounds_toArray, List.set_cons_zero, List.set_cons_succ, Nat.reduceAdd])
              first
                | (refine wpS_skip (by rfl) (by rfl) ?_; try simp only [Act.put, List.setIfInBounds_toArray, List.set_cons_zero, List.set_cons_succ, Nat.reduceAdd])
                | (refine wpS_val (v := ?_) HRR (by rfl) (by rfl) ?_ ?_; rotate_left; · (intro w' hS; go_simp; first | done | with_reducible rfl)
                   try simp only [Act.put, List.setIfInBounds_toArray, List.set_cons_zero, List.set_cons_succ, Nat.reduceAdd])
              first
                | (refine wpS_chain (v := ?_) (f := ?_) (args := ?_) 0 (by kernel_rfl) rfl (by intro p hp; first | omega | (obtain rfl : p = 0 := (by omega); exact ⟨_, rfl, by kernel_rfl⟩)) (of_decide_eq_true (by kernel_rfl)) (by rfl) HRR ?_ ?_ ?_; rotate_left 3
                   · (intro w' hS; go_simp; first | done | (refine ⟨?_, ?_⟩ <;> with_reducible rfl) | with_reducible rfl)
                   · (intro w' hS; have hS' : CW w ((wr.heap.size, 26, f.cs.toArray) :: KZ Ad ns cs gz) q r (some ⟨g, o, none⟩) A' t S c l s1 w' := hS; have hw := hS'.wait (i := k) (by omega); rw [HTX.out] at hw; refine hw.mono ?_; rintro e w3 ⟨rfl, rfl⟩; refine ⟨?_, hS'⟩; with_reducible rfl)
                   try simp only [Act.put, List.setIfInBounds_toArray, List.set_cons_zero, List.set_cons_succ, Nat.reduceAdd])
              refine wpS_vstep (v := ?_) 1 (by kernel_rfl) rfl (by intro p hp; first | omega | (obtain rfl : p = 0 := (by omega); exact ⟨_, rfl, by kernel_rfl⟩)) (of_decide_eq_true (by kernel_rfl)) (by rfl) HRR ?_ (fun w h => h) ?_
              rotate_left
              · intro w' hS
                go_simp
                first | done | with_reducible rfl
              try simp only [Act.put, List.setIfInBounds_toArray, List.set_cons_zero, List.set_cons_succ, Nat.reduceAdd]
              refine wpS_vstep (v := ?_) 2 (by kernel_rfl) rfl (by intro p hp; first | omega | (obtain rfl : p = 1 := (by omega); exact ⟨_, rfl, by kernel_rfl⟩)) (of_decide_eq_true (by kernel_rfl)) (by rfl) HRR ?_ (fun w h => h) ?_
              rotate_left
              · intro w' hS
                go_simp
                first | done | with_reducible rfl
              try simp only [Act.put, List.setIfInBounds_toArray, List.set_cons_zero, List.set_cons_succ, Nat.reduceAdd]
              first
                | (refine wpS_skip (by rfl) (by rfl) ?_; try simp only [Act.put, List.setIfInBounds_toArray, List.set_cons_zero, List.set_cons_succ, Nat.reduceAdd])
                | (refine wpS_val (v := ?_) HRR (by rfl) (by rfl) ?_ ?_; rotate_left; · (intro w' hS; go_simp; first | done | with_reducible rfl)
                   try simp only [Act.put, List.setIfInBounds_toArray, List.set_cons_zero, List.set_cons_succ, Nat.reduceAdd])
              first
                | (refine wpS_skip (by rfl) (by rfl) ?_; try simp only [Act.put, List.setIfInBounds_toArray, List.set_cons_zero, List.set_cons_succ, Nat.reduceAdd])
                | (refine wpS_val (v := ?_) HRR (by rfl) (by rfl) ?_ ?_; rotate_left; · (intro w' hS; go_simp; first | done | with_reducible rfl)
                   try simp only [Act.put, List.setIfInBounds_toArray, List.set_cons_zero, List.set_cons_succ, Nat.reduceAdd])
              first
                | (refine wpS_skip (by rfl) (by rfl) ?_; try simp only [Act.put, List.setIfInBounds_toArray, List.set_cons_zero, List.set_cons_succ, Nat.reduceAdd])
                | (refine wpS_val (v := ?_) HRR (by rfl) (by rfl) ?_ ?_; rotate_left; · (intro w' hS; go_simp; first | done | with_reducible rfl)
                   try simp only [Act.put, List.setIfInBounds_toArray, List.set_cons_zero, List.set_cons_succ, Nat.reduceAdd])
              first
                | (refine wpS_skip (by rfl) (by rfl) ?_; try simp only [Act.put, List.setIfInBounds_toArray, List.set_cons_zero, List.set_cons_succ, Nat.reduceAdd])
                | (refine wpS_val (v := ?_) HRR (by rfl) (by rfl) ?_ ?_; rotate_left; · (intro w' hS; go_simp; first | done | with_reducible rfl)
                   try simp only [Act.put, List.setIfInBounds_toArray, List.set_cons_zero, List.set_cons_succ, Nat.reduceAdd])
              first
                | (refine wpS_skip (by rfl) (by rfl) ?_; try simp only [Act.put, List.setIfInBounds_toArray, List.set_cons_zero, List.set_cons_succ, Nat.reduceAdd])
                | (refine wpS_val (v := ?_) HRR (by rfl) (by rfl) ?_ ?_; rotate_left; · (intro w' hS; go_simp; first | done | with_reducible rfl)
                   try simp only [Act.put, List.setIfInBounds_toArray, List.set_cons_zero, List.set_cons_succ, Nat.reduceAdd])
              first
                | (refine wpS_chain (v := ?_) (f := ?_) (args := ?_) 3 (by kernel_rfl) rfl (by intro p hp; first | omega | (obtain rfl : p = 2 := (by omega); exact ⟨_, rfl, by kernel_rfl⟩)) (of_decide_eq_true (by kernel_rfl)) (by rfl) HRR ?_ ?_ ?_; rotate_left 3
                   · (intro w' hS; go_simp; first | done | (refine ⟨?_, ?_⟩ <;> with_reducible rfl) | with_reducible rfl)
                   · (intro w' hS; have hS' : CW w ((wr.heap.size, 26, f.cs.toArray) :: KZ Ad ns cs gz) q r (some ⟨g, o, none⟩) A' t S c l s1 w' := hS; refine ((hS'.send (i := k) (by omega) f hf).mono ?_); rintro e w3 ⟨rfl, h3⟩; rw [hE0]; refine ⟨?_, h3⟩; with_reducible rfl)
                   try simp only [Act.put, List.setIfInBounds_toArray, List.set_cons_zero, List.set_cons_succ, Nat.reduceAdd])
              first
                | (refine wpS_skip (by rfl) (by rfl) ?_; try simp only [Act.put, List.setIfInBounds_toArray, List.set_cons_zero, List.set_cons_succ, Nat.reduceAdd])
                | (refine wpS_val (v := ?_) HRR (by rfl) (by rfl) ?_ ?_; rotate_left; · (intro w' hS; go_simp; first | done | with_reducible rfl)
                   try simp only [Act.put, List.setIfInBounds_toArray, List.set_cons_zero, List.set_cons_succ, Nat.reduceAdd])
              first
                | (refine wpS_skip (by rfl) (by rfl) ?_; try simp only [Act.put, List.setIfInBounds_toArray, List.set_cons_zero, List.set_cons_succ, Nat.reduceAdd])
                | (refine wpS_val (v := ?_) HRR (by rfl) (by rfl) ?_ ?_; rotate_left; · (intro w' hS; go_simp; first | done | with_reducible rfl)
                   try simp only [Act.put, List.setIfInBounds_toArray, List.set_cons_zero, List.set_cons_succ, Nat.reduceAdd])
              refine wpS_done (by kernel_rfl) (fun w8 hS => ?_)
              have hS : CW w ((wr.heap.size, 26, f.cs.toArray) :: KZ Ad ns cs gz) q r (some ⟨g, o, none⟩) A' t S c l (upd s1 (q k) (sendX (s1 (q k)) f)) w8 := hS
              have bw8 := (hS.blk (.head _)).cell
              have HCW := Lib.hid hS
              have hl6 : l.length ≤ 6 := by
                have h1 := HKH.out.len
                have h2 := HRH.out.tx3 (i := 0) (by decide)
                have h3 := HRH.out.tx3 (i := 1) (by decide)
                omega
              obtain ⟨m, hm⟩ : ∃ m, l.length = m := ⟨_, rfl⟩
              have HM := Lib.hid hm
              have O8 : Hid (Own w8 w.heap.size 26 11 S m c (fcells l)) := Lib.hid (by rw [← hm]; exact hS.own)
              have z8 := hS.bel.size
              rw [hm] at hl6 ⊢
              clear hm hS HRR CN hE0
              go_wp2_with (at_builtin; refine wpList_app _ rfl (.tmp 60) (.tmp 62) 36 rfl w.heap.size 26 z26 11 24 Try.underlying36 info26 rfl (by decide) S m c _ rfl (O8.out.alloc (.cells f.cs.toArray 26)) _ _ 1 1 f.cs rfl rfl ((Blk.new w8 26 f.cs.toArray).rd) (fr_one f) (by unfold maxLen; omega) (by omega) (by simp; omega) ?_; intro A9 c9 w9 ho9 hg9 hbk9)
              have FF := Lib.hid (FIN.out w9 A9 c9 (l ++ [f]) _ (.slice A9 (m + 1) c9) (by rw [List.length_append, HM.out]; rfl) ((HCW.out.app (by rw [HM.out]; exact ho9) hg9 hbk9).mono (fun _ h => .tail _ h)) HO.out)
              clear FIN
              go_roundw
              case rel => exact FF.out
              case measure => simp [intOf]; omega
          · obtain rfl : tx = 3 := by omega
            have WT : Hid (∀ w', Below W4.heap.size W4 w' → Calls Try.prog 21 #[.pointer (some ⟨q k, 0, none⟩)] w' fun e w2 => e = .returned (.int .i64 3) ∧ w' = w2) := Lib.hid fun w' hb => by
              have := (CN.out.below hb).wait (i := k) (by omega)
              rw [HTX.out] at this
              exact this
            have N0 := fun w' (hb : Below W4.heap.size W4 w') => (CN.out.below hb).nc (i := k) (by omega)
            go_wp2_with fail
            refine wp_region_c (fun w' => Below W4.heap.size W4 w') (by kernel_rfl) (by kernel_rfl) ((Below.refl _ _).drew) ?_
            repeat (first
              | (refine wpL_skip (by rfl) ?_; try simp only [Act.put, List.setIfInBounds_toArray, List.set_cons_zero, List.set_cons_succ, Nat.reduceAdd])
              | (refine wpL_val (v := ?_) (by rfl) ?_ ?_; rotate_left; · (intro w' hS; go_simp; first | done | with_reducible rfl)
                 try simp only [Act.put, List.setIfInBounds_toArray, List.set_cons_zero, List.set_cons_succ, Nat.reduceAdd])
              | (refine wpL_call (v := ?_) (f := ?_) (args := ?_) (by rfl) ?_ ?_ ?_; rotate_left 3
                 · (intro w' hS; go_simp; first | done | (refine ⟨?_, ?_⟩ <;> with_reducible rfl) | with_reducible rfl)
                 · (intro w' hS; first
                     | ((with_reducible refine (WT.out w' hS).mono ?_); rintro e w2 ⟨rfl, rfl⟩; refine ⟨?_, hS⟩; with_reducible rfl))
                 try simp only [Act.put, List.setIfInBounds_toArray, List.set_cons_zero, List.set_cons_succ, Nat.reduceAdd]))
            refine wpL_done (fun w8 hS => ?_)
            have FF := Lib.hid (FIN.out w8 S c l s1 _ rfl ((CN.out.below hS).mono (fun _ h => .tail _ h)) HKH.out)
            clear FIN
            go_wp2_with fail
            go_roundw
            case rel => exact FF.out
            case measure => simp [intOf]; omega
        · have hne : ¬ ((j : Int) < nk) := by omega
          have FIN : Hid (∃ (k' : Nat), k' ≤ 2 ∧ Value.int .i64 ((k : Int) + 1) = .int .i64 k' ∧ O1 Ad ns cs w gz q r (some ⟨g, o, none⟩) A' t (.slice S l.length c) wr) := Lib.hid ⟨k + 1, by omega, by simp, S, c, l, s1, rfl, HR, HK⟩
          clear HR HK
          go_wp2_with fail
          go_roundw
          case rel => exact FIN.out
          case measure => simp [intOf]; omega
    · obtain rfl : k = 2 := by omega
      simp only [show ((2 : Nat) : Int) = 2 from rfl]
      have hn6 : l.length ≤ 6 := by
        have h1 := HK.len
        have h2 := HCr.tx3 (i := 0) (by decide)
        have h3 := HCr.tx3 (i := 1) (by decide)
        omega
      obtain ⟨n, hn⟩ : ∃ n, l.length = n := ⟨_, rfl⟩
      have HS0 : Hid (O3 Ad ns cs w gz q r (some ⟨g, o, none⟩) A' t n 0 (.slice S n c) wr) := Lib.hid ⟨S, c, l, s, by rw [hn], HCr, HK, hn⟩
      rw [hn] at hn6 ⊢
      clear hn HCr HK HX hlt
      go_wp2_with fail
      go_loopw [68, 8, 13] (fun iv sv mv wr => ∃ (m : Nat), m ≤ n ∧ iv = .int .i64 m ∧ mv = .int .i64 m ∧ O3 Ad ns cs w gz q r (some ⟨g, o, none⟩) A' t (n - m) m sv wr) (fun iv _ _ _ => n - (intOf iv).toNat)
      case atStart => exact ⟨0, Nat.zero_le _, rfl, rfl, HS0.out⟩
      case round =>
        obtain ⟨m, hm, rfl, rfl, S, c, l, s, rfl, HC, HK, hl⟩ := hrel
        clear HS0
        by_cases hlm : m < n
        · have hlm' : (m : Int) < n := by omega
          obtain ⟨i, f, hi3, hV, hmem, ⟨k0, g0, hk0, hg0⟩, hNX⟩ := on_turn hq HK (by omega)
          have hf := HK.wf i hi3 f hmem
          have HNX := Lib.hid hNX
          have H0 : Hid (∃ (k0 : Nat) (g0 : Fr), l[k0]? = some g0 ∧ g0.cs = f.cs) := Lib.hid ⟨k0, g0, hk0, hg0⟩
          have TN := HC.turn false hc3 hcm
          rw [hV] at TN
          have TN := Lib.hid TN
          obtain ⟨N, hN⟩ : ∃ N, l.length = N := ⟨_, rfl⟩
          have HN := Lib.hid hN
          rw [hN] at hl ⊢
          have HLN := Lib.hid hl
          have hN6 : N ≤ 6 := by omega
          obtain ⟨s', hs'⟩ : ∃ s', turnS (nodesL q) s 3 false = s' := ⟨_, rfl⟩
          rw [hs'] at TN HNX
          clear HC HK hV hmem hNX hk0 hg0 hN hs' hl
          go_wp2_with fail
          refine TN.out.mono ?_
          rintro e w3 ⟨rfl, h3⟩
          clear TN
          go_upto_region 18 with fail
          refine wp_named fun W4 hW4 => ?_
          obtain ⟨BF, hbW4⟩ := blk1 (c1 := f.cs.toArray) hW4
          have C4 := Lib.hid (h3.below hbW4)
          have O4 : Hid (Own W4 w.heap.size 26 11 S N c (fcells l)) := Lib.hid (by rw [← HN.out]; exact C4.out.own)
          have hcM := O4.out.2.2.1
          unfold maxLen at hcM
          have hcN := O4.out.2.1
          obtain ⟨gs, os, hA3⟩ := O4.out.at_ (by have := HLN.out; omega)
          subst hA3
          obtain ⟨bf, hbf⟩ : ∃ bf, w3.heap.size = bf := ⟨_, rfl⟩
          rw [hbf] at BF ⊢
          have HBF := Lib.hid BF
          clear hW4 h3 hbW4 hbf BF
          go_wp2_with fail
          go_loopw [78, 17] (fun iv av wr => ∃ k, k ≤ N ∧ iv = .int .i64 (k : Nat) ∧ AtI l f k av ∧ Below W4.heap.size W4 wr) (fun iv _ _ => N - (intOf iv).toNat)
          case atStart => exact ⟨0, Nat.zero_le _, rfl, .inl ⟨rfl, fun j g hj => by omega⟩, Below.refl _ _⟩
          case round =>
            obtain ⟨k, hk, rfl, hat, hbx⟩ := hrel
            have hzx := hbx.size
            by_cases hlt : k < N
            · have hlt' : (k : Int) < N := by omega
              obtain ⟨y, hy⟩ : ∃ t, l[k]? = some t := ⟨_, List.getElem?_eq_getElem (by rw [HN.out]; exact hlt)⟩
              have rr := row_rule O4.out k y hy
              have r0 := rr 0 _ rfl wr hbx
              have r1 := rr 1 _ rfl wr hbx
              have r2 := rr 2 _ rfl wr hbx
              have r3 := rr 3 _ rfl wr hbx
              have r4 := rr 4 _ rfl wr hbx
              have r5 := rr 5 _ rfl wr hbx
              have r6 := rr 6 _ rfl wr hbx
              have r7 := rr 7 _ rfl wr hbx
              have r8 := rr 8 _ rfl wr hbx
              have r9 := rr 9 _ rfl wr hbx
              have r10 := rr 10 _ rfl wr hbx
              rw [Nat.add_zero] at r0
              clear rr
              go_upto_region 22 with fail
              refine wp_named fun W5 hW5 => ?_
              obtain ⟨BY, hbW5⟩ := blk1 (c1 := y.cs.toArray) hW5
              have hb5 := hbx.trans (hbW5.mono hzx)
              have byc := BY.cell
              have bfc := (HBF.out.below hb5).cell
              have heq := fun w' => eq26_any y f w'
              obtain ⟨M, hM⟩ : ∃ M, y.eqb f = M := ⟨_, rfl⟩
              rw [hM] at heq
              have hS := Lib.hid fun (h : M = false) => hat.skip hy (by rw [hM]; exact h)
              have hH : Hid (M = true → AtI l f (k + 1) (.int .i64 k)) := Lib.hid fun h => AtI.hit hy (by rw [hM]; exact h)
              clear hW5 r0 r1 r2 r3 r4 r5 r6 r7 r8 r9 r10 hat hM hy BY
              cases M with
              | true =>
                have HH := Lib.hid (hH.out rfl)
                clear hS hH
                go_wp2_with fail
                go_roundw
                case rel => exact ⟨k + 1, by omega, by simp, HH.out, hb5⟩
                case measure => simp [intOf]; omega
              | false =>
                have HH := Lib.hid (hS.out rfl)
                clear hS hH
                go_wp2_with fail
                go_roundw
                case rel => exact ⟨k + 1, by omega, by simp, HH.out, hb5⟩
                case measure => simp [intOf]; omega
            · obtain rfl : k = N := by omega
              rcases hat with ⟨-, hno⟩ | ⟨a, g', rfl, hak, hga, hge⟩
              · exfalso
                obtain ⟨k0, g0, h0, h1⟩ := H0.out
                exact hno k0 g0 (by rw [← HN.out]; exact (List.getElem?_eq_some_iff.1 h0).1) h0 h1
              have HO := Lib.hid (HNX.out a g' hga hge)
              have C8 := Lib.hid (C4.out.below hbx)
              have O8 := Lib.hid (O4.out.below hbx)
              have haI : (a : Int) < k := by omega
              have haI0 : ¬ ((a : Int) < 0) := by omega
              obtain ⟨X, hX0⟩ : ∃ X, a + 1 = X := ⟨_, rfl⟩
              have hwX : IntKind.i64.wrap ((a : Int) + 1) = (X : Int) := by rw [← hX0]; exact IntWalk.i64_in _ (by omega)
              have hXm : (X : Int) ≤ k := by omega
              have hXc : (X : Int) ≤ c := by omega
              have hac : (a : Int) ≤ c := by omega
              rw [hX0] at HO
              clear hga hge H0 HNX C4 O4 HBF
              go_wp2_with fail
              have HR1 : Hid (∀ w', Below wr.heap.size wr w' → Rd w' wr.heap.size (some ⟨gs, os, none⟩) (fcells (l.take a))) := Lib.hid fun w' hb => by rw [fcells_take]; exact (O8.out.rd.below hb).take _
              have HL1 : Hid ((fcells (l.take a)).length = a * 11) := Lib.hid (by rw [fcells_len, List.length_take, HN.out, Nat.min_eq_left (by omega)])
              have HR0 : Hid (∀ w', Below wr.heap.size wr w' → Rd w' wr.heap.size (if c = X then some ⟨gs, os, none⟩ else some ⟨gs, os + X * 11, none⟩) (fcells (l.drop X))) := Lib.hid fun w' hb => by
                have h1 := O8.out.cut (k := X) (by omega) (by decide)
                rw [← fcells_drop] at h1
                have h2 := h1.rd.below hb
                rw [Option.map_some, show (⟨gs, os, none⟩ : Addr).add (X * 11) = ⟨gs, os + X * 11, none⟩ from by unfold Addr.add; split <;> simp_all <;> omega] at h2
                exact h2
              have HFIN : Hid (∀ w9 A9 c9 n9, Own w9 wr.heap.size 26 11 A9 n9 c9 ([] ++ fcells (l.take a) ++ fcells (l.drop X)) → Below wr.heap.size wr w9 → ∃ m' : Nat, m' ≤ n ∧ Value.int .i64 ((m : Int) + 1) = .int .i64 m' ∧ Value.int .i64 ((m : Int) + 1) = .int .i64 m' ∧ O3 Ad ns cs w gz q r (some ⟨g, o, none⟩) A' t (n - m') m' (.slice A9 n9 c9) w9) := Lib.hid fun w9 A9 c9 n9 x1 x2 => by
                rw [List.nil_append, ← fcells_app] at x1
                have hl9 : (l.take a ++ l.drop X).length = n9 := by
                  have h1 := x1.1
                  rw [fcells_len] at h1
                  omega
                have hl8 : (l.take a ++ l.drop X).length = n - (m + 1) := by
                  have := HLN.out
                  rw [List.length_append, List.length_take, List.length_drop, HN.out]
                  omega
                exact ⟨m + 1, by omega, by simp, by simp, A9, c9, l.take a ++ l.drop X, s', by rw [hl9], C8.out.anew hl9 x1 x2, HO.out, hl8⟩
              clear hbx hzx
              go_region_held_law (fun w' => Below wr.heap.size wr w') (first | exact (Below.refl _ _).drew | exact ((Below.refl _ _).alloc (Nat.le_refl _) _).drew | exact Below.alloc (by assumption) (Below.size (by assumption)) _ | exact hb7 | exact hb5 | assumption)
                (first
                  | (refine step_app _ rfl (.tmp 94) (.tmp 97) 36 rfl wr.heap.size 26 z26 11 24 Try.underlying36 info26 rfl (by decide) _ 0 0 [] rfl (fr26 wr).drew _ _ a _ (fcells (l.take a)) rfl HL1.out (HR1.out _ ((Below.refl _ _).alloc (Nat.le_refl _) _).drew) (fcells_one _) (by unfold maxLen; omega) (by omega) (by simp) ?_; intro A5 c5 w5 ho5 hg5 hbk5; have hb5 : Below wr.heap.size wr w5 := bel_app ((Below.refl _ _).alloc (Nat.le_refl _) _).drew (fr26 wr).drew (Nat.le_refl _) hg5)
                  | (refine step_app _ rfl (.tmp 98) (.tmp 102) 36 rfl wr.heap.size 26 z26 11 24 Try.underlying36 info26 rfl (by decide) _ _ _ _ rfl ho5 _ _ _ _ (fcells (l.drop X)) rfl (by rw [fcells_len, List.length_drop, HN.out]; try omega) (HR0.out _ hb5) (fcells_one _) (by unfold maxLen; omega) (by omega) hb5.size ?_; intro A7 c7 w7 ho7 hg7 hbk7; have hb7 : Below wr.heap.size wr w7 := bel_app hb5 ho5 (Nat.le_refl _) hg7))
              have FF := HFIN.out _ _ _ _ ho7 hb7
              rw [Nat.zero_add] at FF
              have FF := Lib.hid FF
              clear HFIN HR0 HR1 HL1 O8 C8 HO
              go_wp2_with fail
              all_goals
                go_roundw
                case rel => exact FF.out
                case measure => simp [intOf]; omega
        · obtain rfl : m = n := by omega
          obtain rfl : l = [] := List.eq_nil_of_length_eq_zero (by omega)
          obtain ⟨hrx, hlo⟩ := on_end HK
          have HOV := HC.over (i := 2) (by decide)
          rw [hlo] at HOV
          have HOV := Lib.hid HOV
          have HRX : Hid (((upd s (q 2) { s (q 2) with lost := false }) (q 2)).rx.length = min m 4) := Lib.hid (by rw [upd_eq]; exact hrx)
          have N2 := HC.nc (i := 2) (by decide)
          clear HC HK hl hlm hrx hlo
          simp only [List.length_nil]
          rcases Nat.lt_or_ge 4 m with h4 | h4
          · have hdL : decide (4 < m) = true := decide_eq_true h4
            have h4I : (4 : Int) < m := by omega
            have h4D : decide ((4 : Int) < m) = true := decide_eq_true h4I
            have h4J : ¬ ((m : Int) ≤ 4) := by omega
            rw [hdL] at HOV
            rw [Nat.min_eq_right (by omega)] at HRX
            go_wp2_with fail
            refine HOV.out.mono ?_
            rintro e w5 ⟨rfl, h5⟩
            have TK := h5.taken (i := 2) (by decide)
            rw [HRX.out] at TK
            have TK := Lib.hid TK
            have N5 := h5.nc (i := 2) (by decide)
            have hb5 := h5.bel
            clear h5 HOV HRX
            go_wp2_with fail
            refine TK.out.mono ?_
            rintro e w6 ⟨rfl, rfl⟩
            go_wp2_with fail
            go_ret
            first | exact ⟨rfl, hb5⟩ | exact ⟨by simp [h4D], hb5⟩
          · have hdL : decide (4 < m) = false := decide_eq_false (by omega)
            have h4I : ¬ ((4 : Int) < m) := by omega
            have h4D : decide ((4 : Int) < m) = false := decide_eq_false h4I
            have h4J : ((m : Int) ≤ 4) := by omega
            rw [hdL] at HOV
            rw [Nat.min_eq_left (by omega)] at HRX
            go_wp2_with fail
            refine HOV.out.mono ?_
            rintro e w5 ⟨rfl, h5⟩
            have TK := h5.taken (i := 2) (by decide)
            rw [HRX.out] at TK
            have TK := Lib.hid TK
            have N5 := h5.nc (i := 2) (by decide)
            have hb5 := h5.bel
            clear h5 HOV HRX
            go_wp2_with fail
            refine TK.out.mono ?_
            rintro e w6 ⟨rfl, rfl⟩
            go_wp2_with fail
            go_ret
            first | exact ⟨rfl, hb5⟩ | exact ⟨by simp [h4D], hb5⟩
end Go.Proofs.Ytbmkfjgodgmjnaa
