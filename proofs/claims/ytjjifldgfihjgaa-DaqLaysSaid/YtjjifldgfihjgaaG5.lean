/- Daq: lists that are the same. -/
import Derived.Test.YtjjifldgfihjgaaG4
import Derived.Test.YtjjifldgfihjgaaConf
namespace Go.Proofs.Ytjjifldgfihjgaa
open Go.RowKit
set_option linter.unusedVariables false
set_option linter.unusedSimpArgs false
theorem eq43 (e : En) (w : World) : (Op.equalIn 10000 43 (.agg #[.int .u8 e.size, .int .u8 e.area, .int .u32 e.pl]) (.agg #[.int .u8 e.size, .int .u8 e.area, .int .u32 e.pl])).run Try.prog w = .ok true w := by
  have hS : Try.prog.underlying 43 = some (.struct (Try.prog.fieldsOf 43)) := by kernel_rfl
  have hp : Try.prog.stoodInHeld 43 = false := by kernel_rfl
  have u5 := Try.underlying5
  have u30 := Try.underlying30
  rw [show (10000 : Nat) = 9999 + 1 from rfl, run_equalIn_agg w 9999 43 _ _ hS hp]
  simp only [Program.fieldsOf, Try.underlying43]
  go_simp
/-- What reads, reads in every world that has come by growth. -/
theorem Rd.rule {w : World} {g o : Nat} {vs : List Value} (h : Rd w w.heap.size (some ⟨g, o, none⟩) vs) {i : Nat} {u : Value} (hu : vs[i]? = some u) : ∀ w', Below w.heap.size w w' → w'.cell? ⟨g, o + i, none⟩ = some u := fun w' hb => by
  obtain ⟨b, o', e, -, hc⟩ := h.bel hb (fun e => by rw [e] at hu; simp at hu)
  simp only [Option.some.injEq, Addr.mk.injEq, and_true] at e
  obtain ⟨rfl, rfl⟩ := e
  exact hc i u hu
theorem Rd.some_ {w : World} {B : Nat} {A : Option Addr} {vs : List Value} (h : Rd w B A vs) (hn : vs ≠ []) : ∃ g o, A = some ⟨g, o, none⟩ := by
  obtain ⟨b, o, e, -⟩ := h hn
  exact ⟨b, o, e⟩
theorem ne_nil_of_get {α : Type} {l : List α} {i : Nat} {x : α} (h : l[i]? = some x) : l ≠ [] := fun e => by rw [e] at h; simp at h
theorem map_eq_get {α β : Type} {f : α → β} {l l' : List α} (h : l.map f = l'.map f) {i : Nat} {x : α} (hx : l[i]? = some x) : ∃ y, l'[i]? = some y ∧ f x = f y := by
  have h1 : (l'.map f)[i]? = some (f x) := by rw [← h, List.getElem?_map, hx]; rfl
  rw [List.getElem?_map] at h1
  cases h2 : l'[i]? with
  | none => rw [h2] at h1; cases h1
  | some y => rw [h2] at h1; exact ⟨y, rfl, by simpa using h1.symm⟩
theorem map_eq_len {α β : Type} {f : α → β} {l l' : List α} (h : l.map f = l'.map f) : l.length = l'.length := by simpa using congrArg List.length h
set_option maxRecDepth 100000 in
set_option maxHeartbeats 8000000 in
theorem same_any {w : World} {A A' : Option Addr} {cl cl' : List Lc} {n c c' : Nat} (h : RL w A cl) (h' : RL w A' cl') (hab : abs cl = abs cl') (hn : cl.length = n) (hl : LL (abs cl)) :
    Calls Try.prog 14 #[.slice A n c, .slice A' n c'] w fun e w' => e = .returned (.bool true) ∧ Below w.heap.size w w' := by
  have hn4 := hl.n
  rw [abs_len, hn] at hn4
  have hnI : (n : Int) ≤ 4 := by omega
  have HN := Lib.hid hn
  have HL := Lib.hid hl
  have H := Lib.hid h
  have H' := Lib.hid h'
  have HAB := Lib.hid hab
  clear h h' hab hl hn
  go_enter Try.func14, Try.ntmps14
  go_wp2_with fail
  go_loopw [5] (fun iv wr => ∃ k : Nat, k ≤ n ∧ iv = .int .i64 k ∧ Below w.heap.size w wr) (fun iv _ => n - (intOf iv).toNat)
  case atStart => exact ⟨0, Nat.zero_le _, rfl, Below.refl _ _⟩
  case round =>
    obtain ⟨k, hk, rfl, hb⟩ := hrel
    by_cases hlt : k < n
    · have hlt' : (k : Int) < n := by omega
      obtain ⟨x, hx⟩ : ∃ x, cl[k]? = some x := ⟨_, List.getElem?_eq_getElem (by rw [HN.out]; exact hlt)⟩
      obtain ⟨y, hy, hxy⟩ := map_eq_get (f := Lc.ab) HAB.out hx
      have hR := H.out.below hb
      have hR' := H'.out.below hb
      obtain ⟨g, o, rfl⟩ := hR.row.some_ (ne_nil_of_get (lcells_at hx (j := 0) rfl))
      obtain ⟨g', o', rfl⟩ := hR'.row.some_ (ne_nil_of_get (lcells_at hy (j := 0) rfl))
      have rx := fun j u hu => hR.row.rule (lcells_at hx (j := j) (u := u) hu) wr (Below.refl _ _)
      have ry := fun j u hu => hR'.row.rule (lcells_at hy (j := j) (u := u) hu)
      have r0 := rx 0 _ rfl
      have r1 := rx 1 _ rfl
      have r2 := rx 2 _ rfl
      have r3 := rx 3 _ rfl
      have r4 := rx 4 _ rfl
      have r5 := rx 5 _ rfl
      have r6 := rx 6 _ rfl
      have r7 := rx 7 _ rfl
      rw [Nat.add_zero] at r0
      rw [← Nat.add_assoc] at r1 r2 r3 r4 r5 r6 r7
      go_upto_region 7 with fail
      refine wp_named fun W1 hW1 => ?_
      obtain ⟨BX, hbW1⟩ := blk1 (c1 := x.cs.toArray) hW1
      have ry := fun j u hu => ry j u hu W1 hbW1
      clear hW1
      have s0 := ry 0 _ rfl
      have s1 := ry 1 _ rfl
      have s2 := ry 2 _ rfl
      have s3 := ry 3 _ rfl
      have s4 := ry 4 _ rfl
      have s5 := ry 5 _ rfl
      have s6 := ry 6 _ rfl
      have s7 := ry 7 _ rfl
      rw [Nat.add_zero] at s0
      rw [← Nat.add_assoc] at s1 s2 s3 s4 s5 s6 s7
      have bx0 := BX.cell
      unfold Lc.ab at hxy
      simp only [Ls.mk.injEq] at hxy
      obtain ⟨htabs, e0, e2, e3, e4, e5, e6, e7⟩ := hxy
      have hnt := map_eq_len htabs
      have htl : x.tabs.length ≤ 16 := by
        have := HL.out.t x.ab (List.mem_of_getElem? (abs_get hx))
        simpa [Lc.ab] using this
      rw [← e0] at s0
      rw [← hnt] at s1
      rw [← e2] at s2
      rw [← e3] at s3
      rw [← e4] at s4
      rw [← e5] at s5
      rw [← e6] at s6
      rw [← e7] at s7
      obtain ⟨nt, hnt'⟩ : ∃ nt, x.tabs.length = nt := ⟨_, rfl⟩
      obtain ⟨xA, hxA⟩ : ∃ xA, x.A = xA := ⟨_, rfl⟩
      obtain ⟨yA, hyA⟩ : ∃ yA, y.A = yA := ⟨_, rfl⟩
      unfold Lc.cs at BX
      rw [hnt', hxA] at BX
      rw [hnt', hyA] at s1
      rw [hnt'] at htl
      have HNT := Lib.hid hnt'
      have HT := Lib.hid htabs
      have TX := Lib.hid (hR.tab k x hx)
      have TY := Lib.hid (hR'.tab k y hy)
      rw [hxA] at TX
      rw [hyA] at TY
      have EX := Lib.hid (fun j t ht => hR.ent k x j t hx ht)
      have EY := Lib.hid (fun j t ht => hR'.ent k y j t hy ht)
      have E7 : Hid (∀ t ∈ x.tabs, t.es.length ≤ 7) := Lib.hid fun t ht => HL.out.e x.ab (List.mem_of_getElem? (abs_get hx)) t.es (by
        unfold Lc.ab
        exact List.mem_map.2 ⟨t, ht, rfl⟩)
      have htI : (nt : Int) ≤ 16 := by omega
      have hz := hb.size
      clear rx ry e0 e2 e3 e4 e5 e6 e7 htabs hnt hnt' hxA hyA hR hR' hx hy htl
      go_upto_region 8 with fail
      refine wp_named fun W hW => ?_
      obtain ⟨BY, hbW2⟩ := blk1 (c1 := #[.int .i64 x.first, .slice yA nt y.c, .bool x.stim, .int .u8 x.ev, .int .u8 x.pre, .int .u8 x.pri, .bool x.on, .bool x.ch]) hW
      have BX := BX.below hbW2
      have hbW := hbW1.trans (hbW2.mono hbW1.size)
      have bx := BX.cell
      have bY := BY.cell
      obtain ⟨gx, hgx⟩ : ∃ gx, wr.heap.size = gx := ⟨_, rfl⟩
      obtain ⟨gy, hgy⟩ : ∃ gy, W1.heap.size = gy := ⟨_, rfl⟩
      rw [hgx] at BX bx ⊢
      rw [hgy] at BY bY ⊢
      clear hW hgx hgy bx0 r0 r1 r2 r3 r4 r5 r6 r7 s0 s1 s2 s3 s4 s5 s6 s7
      have hbw := hb.trans (hbW.mono hz)
      go_wp2_with fail
      clear bx bY
      go_loopw [8] (fun jv wr => ∃ j : Nat, j ≤ nt ∧ jv = .int .i64 j ∧ Below W.heap.size W wr) (fun jv _ => nt - (intOf jv).toNat)
      case atStart => exact ⟨0, Nat.zero_le _, rfl, Below.refl _ _⟩
      case round =>
        obtain ⟨j, hj, rfl, hb2⟩ := hrel
        have bx := (BX.below hb2).cell
        by_cases hlj : j < nt
        · have hljI : (j : Int) < nt := by omega
          obtain ⟨t, ht⟩ : ∃ t, x.tabs[j]? = some t := ⟨_, List.getElem?_eq_getElem (by rw [HNT.out]; exact hlj)⟩
          obtain ⟨t', ht', htt⟩ := map_eq_get (f := Tb.ab) HT.out ht
          have hTX := (TX.out.bel hbW).bel hb2
          have hTY := (TY.out.bel hbW).bel hb2
          obtain ⟨gt, ot, rfl⟩ := hTX.some_ (ne_nil_of_get (tcells_at ht))
          obtain ⟨gt', ot', rfl⟩ := hTY.some_ (ne_nil_of_get (tcells_at ht'))
          have q0 := hTX.rule (tcells_at ht)
          have q1 := hTY.rule (tcells_at ht')
          have hes : t.es = t'.es := htt
          rw [← hes] at q1
          have ht7 := E7.out t (List.mem_of_getElem? ht)
          have hEX := ((EX.out j t ht).bel hbW).bel hb2
          have hEY := ((EY.out j t' ht').bel hbW).bel hb2
          rw [← hes] at hEY
          obtain ⟨me, hme⟩ : ∃ me, t.es.length = me := ⟨_, rfl⟩
          rw [hme] at q0 q1 ht7
          have HME := Lib.hid hme
          have RX := (BX.below hb2).rule
          have RY := (BY.below hb2).rule
          have hmI : (me : Int) ≤ 7 := by omega
          have hmm : ((me : Int) != (me : Int)) = false := by simp
          have HEX := Lib.hid hEX
          have HEY := Lib.hid hEY
          have Q0 := Lib.hid q0
          have Q1 := Lib.hid q1
          clear hEX hEY hTX hTY ht ht' htt hes hme
          go_wp2_with fail
          refine wp_region_c (fun w' => Below wr.heap.size wr w') (by kernel_rfl) (by kernel_rfl) ((Below.refl _ _).drew) ?_
          repeat (first
            | (refine wpL_skip (by rfl) ?_; try simp only [Act.put, List.setIfInBounds_toArray, List.set_cons_zero, List.set_cons_succ, Nat.reduceAdd])
            | (refine wpL_val (v := ?_) (by rfl) ?_ ?_; rotate_left; · (intro w' hS; go_simp; first | done | with_reducible rfl)
               try simp only [Act.put, List.setIfInBounds_toArray, List.set_cons_zero, List.set_cons_succ, Nat.reduceAdd]))
          refine wpL_done (fun w8 hS => ?_)
          have hb3 := hb2.trans (hS.mono hb2.size)
          clear q0 q1 RX RY bx
          go_wp2_with fail
          go_loopw [9] (fun zv wx => ∃ z : Nat, z ≤ me ∧ zv = .int .i64 z ∧ Below w8.heap.size w8 wx) (fun zv _ => me - (intOf zv).toNat)
          case atStart => exact ⟨0, Nat.zero_le _, rfl, Below.refl _ _⟩
          case round =>
            obtain ⟨z, hz', rfl, hb4⟩ := hrel
            have hb5 := hb3.trans (hb4.mono hb3.size)
            have hbw2 := bel2 hS hb4
            have bx := (BX.below hb5).cell
            have q0 := Q0.out wr hbw2
            have q0r := Q0.out
            by_cases hlz : z < me
            · have hlzI : (z : Int) < me := by omega
              obtain ⟨y1, hy1⟩ : ∃ y1, t.es[z]? = some y1 := ⟨_, List.getElem?_eq_getElem (by rw [HME.out]; exact hlz)⟩
              have hE1 := HEX.out.bel hbw2
              have hE2 := HEY.out.bel hbw2
              obtain ⟨ge, oe, hA1⟩ := hE1.some_ (ne_nil_of_get (ecells_at hy1 (j := 0) rfl))
              obtain ⟨gf, of_, hA2⟩ := hE2.some_ (ne_nil_of_get (ecells_at hy1 (j := 0) rfl))
              rw [hA1] at hE1
              rw [hA2] at hE2
              have u0 := hE1.rule (ecells_at hy1 (j := 0) rfl)
              have u1 := hE1.rule (ecells_at hy1 (j := 1) rfl)
              have u2 := hE1.rule (ecells_at hy1 (j := 2) rfl)
              have v0 := hE2.rule (ecells_at hy1 (j := 0) rfl)
              have v1 := hE2.rule (ecells_at hy1 (j := 1) rfl)
              have v2 := hE2.rule (ecells_at hy1 (j := 2) rfl)
              rw [Nat.add_zero] at u0 v0
              rw [← Nat.add_assoc] at u1 u2 v1 v2
              have q1r := fun w' (hb : Below wr.heap.size wr w') => Q1.out w' (bel2 hbw2 hb)
              have q0r := fun w' (hb : Below wr.heap.size wr w') => Q0.out w' (bel2 hbw2 hb)
              rw [hA1] at q0 q0r
              rw [hA2] at q1r
              have RX := (BX.below hb5).rule
              have RY := (BY.below hb5).rule
              have heq := fun w' => eq43 y1 w'
              clear hE1 hE2 hy1 hA1 hA2
              go_wp2_with fail
              refine wp_region_c (fun w' => Below wr.heap.size wr w') (by kernel_rfl) (by kernel_rfl) ((Below.refl _ _).drew) ?_
              repeat (first
                | (refine wpL_skip (by rfl) ?_; try simp only [Act.put, List.setIfInBounds_toArray, List.set_cons_zero, List.set_cons_succ, Nat.reduceAdd])
                | (refine wpL_val (v := ?_) (by rfl) ?_ ?_; rotate_left; · (intro w' hS; go_simp; first | done | with_reducible rfl)
                   try simp only [Act.put, List.setIfInBounds_toArray, List.set_cons_zero, List.set_cons_succ, Nat.reduceAdd]))
              refine wpL_done (fun w9 hS => ?_)
              have FF := Lib.hid (hb4.trans (hS.mono hb4.size))
              clear u0 u1 u2 v0 v1 v2 q1r q0r RX RY
              go_wp2_with fail
              go_roundw
              case rel => exact ⟨z + 1, by omega, by simp, FF.out⟩
              case measure => simp [intOf]; omega
            · obtain rfl : z = me := by omega
              have FF := Lib.hid hb5
              clear q0r
              go_wp2_with fail
              go_roundw
              case rel => exact ⟨j + 1, by omega, by simp, FF.out⟩
              case measure => simp [intOf]; omega
        · obtain rfl : j = nt := by omega
          have FF := Lib.hid (hbw.trans (hb2.mono hbw.size))
          go_wp2_with fail
          go_roundw
          case rel => exact ⟨k + 1, by omega, by simp, FF.out⟩
          case measure => simp [intOf]; omega
    · obtain rfl : k = n := by omega
      go_wp2_with fail
      go_ret
      exact ⟨rfl, hb⟩
end Go.Proofs.Ytjjifldgfihjgaa
