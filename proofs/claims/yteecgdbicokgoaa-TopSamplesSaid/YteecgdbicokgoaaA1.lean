/- fire.Sample: the packets that a list measures. -/
import Derived.Test.YteecgdbicokgoaaA0
namespace Go.Proofs.Yteecgdbicokgoaa
open Go.RowKit
set_option linter.unusedVariables false
set_option linter.unusedSimpArgs false
set_option maxRecDepth 100000
/-- The bytes of a table. -/
def tbB (M : Mx) (es : List En) : List Int := (es.map (enB M)).flatten
theorem tbB_succ (M : Mx) (es : List En) {j : Nat} {e : En} (h : es[j]? = some e) : tbB M (es.take (j + 1)) = tbB M (es.take j) ++ enB M e := by
  unfold tbB
  rw [List.take_add_one, h, List.map_append, List.flatten_append]
  simp
/-- A packet, and where its bytes lie. -/
structure Pk where
  code : Int
  A : Option Addr
  c : Nat
  bs : List Int
abbrev Pk.cs (p : Pk) : List Value := [.int .u8 4, .int .u8 p.code, .slice p.A p.bs.length p.c]
abbrev pcells (l : List Pk) : List Value := flatC Pk.cs l
theorem pcells_snoc (l : List Pk) (x : Pk) : pcells (l ++ [x]) = pcells l ++ x.cs := by
  unfold pcells
  rw [flatC_app]
  simp [flatC]
def PkAt (w : World) (base : Nat) (p : Pk) : Prop := Own w base 5 1 p.A p.bs.length p.c (u8s p.bs)
def Pk.d (p : Pk) : Int × List Int := (p.code, p.bs)
def pkD (M : Mx) (x : Lc) (i : Nat) : Int × List Int := (x.first + i, tbB M (x.tabs.getD i ⟨none, 0, []⟩).es)
theorem info82s : (Try.prog.info? 82).map (fun i => (i.zero, i.size, i.bytes)) = some (some (.agg #[.int .u8 0, .int .u8 0, .slice none 0 0]), 3, 32) := by kernel_rfl
def SampleP (w : World) (M : Mx) (x : Lc) (e : Ending) (w' : World) : Prop := ∃ A c pl, e = .returned (.slice A x.tabs.length c) ∧ Own w' w.heap.size 82 3 A x.tabs.length c (pcells pl) ∧ (∀ p ∈ pl, PkAt w' w.heap.size p) ∧ pl.map Pk.d = (List.range x.tabs.length).map (pkD M x) ∧ Below w.heap.size w w'
theorem mkz8 (n : Nat) (hn : n < 256) (w : World) : (Instr.makeSlice 22 (.int .u8 n) (.int .u8 n)).run Try.prog w = .ok (.slice (some ⟨w.heap.size, 0, none⟩) n n) (w.alloc (.cells (u8s (zeros n)).toArray 5)) := by
  have h := mkz n (by omega) w
  rw [← h]
  rfl
theorem i64_w {n : Int} (h0 : 0 ≤ n) (h1 : n < 1000000) : IntKind.i64.wrap n = n := IntWalk.i64_in _ (by omega)
theorem u8_w {n : Int} (h0 : 0 ≤ n) (h1 : n < 256) : IntKind.u8.wrap n = n := IntWalk.u8_in _ (by omega)
theorem w64_w {n : Int} (h0 : 0 ≤ n) (h1 : n < 1000000) : wrap64 n = n := by unfold wrap64; omega
theorem meas_lt2 {n k : Nat} (h : k < n) : n - ((k : Int) + 1).toNat < n - ((k : Int)).toNat := by omega
theorem w64_step {k n : Nat} (h : k < n) (hn : n ≤ 1000) : wrap64 ((k : Int) + 1) = (k : Int) + 1 := by unfold wrap64; omega
theorem tbB_le (M : Mx) : ∀ (es : List En), (∀ e ∈ es, e.wf) → (tbB M es).length ≤ 256 * es.length
  | [], _ => by simp [tbB]
  | e :: es, h => by
    have h1 := tbB_le M es (fun e' he => h e' (List.mem_cons_of_mem _ he))
    have h2 := enB_len M e
    have h3 := (h e (List.mem_cons_self ..)).s1
    unfold tbB at h1 ⊢
    rw [List.map_cons, List.flatten_cons, List.length_append, List.length_cons, h2]
    omega
set_option maxHeartbeats 4000000 in
theorem sample_any {w : World} {L T m : Nat} {M : Mx} (hM : MAt w L T m M) (x : Lc) (hn : x.tabs.length ≤ 16) (h7 : ∀ t ∈ x.tabs, t.es.length ≤ 7) (hwf : ∀ t ∈ x.tabs, ∀ e ∈ t.es, e.wf) (hf : 0 ≤ x.first ∧ x.first ≤ 16) (hr : Rd w w.heap.size x.A (tcells x.tabs)) (he : ∀ (k : Nat) (t : Tb), x.tabs[k]? = some t → Rd w w.heap.size t.A (ecells t.es)) :
    Calls Try.prog 26 #[.pointer (some ⟨m, 0, none⟩), .agg x.cs.toArray] w (SampleP w M x) := by
  have hb0 := bl1 w (.cells x.cs.toArray 71)
  have HX := Lib.hid (And.intro hM (And.intro h7 (And.intro hwf (And.intro hr (And.intro he hb0)))))
  have cX := (Blk.new w 71 x.cs.toArray).cell
  have BXk := Lib.hid (Blk.new w 71 x.cs.toArray)
  obtain ⟨xA, xc, tabs, first, stim, ev, pre, pri, on, ch⟩ := x
  simp only at hn hf
  obtain ⟨n, hnl⟩ : ∃ n, tabs.length = n := ⟨_, rfl⟩
  have HNL := Lib.hid hnl
  have hcs : (⟨xA, xc, tabs, first, stim, ev, pre, pri, on, ch⟩ : Lc).cs = [.int .i64 first, .slice xA n xc, .bool stim, .int .u8 ev, .int .u8 pre, .int .u8 pri, .bool on, .bool ch] := by rw [← hnl]
  rw [hcs] at cX hb0 BXk ⊢
  rw [hnl] at hn
  obtain ⟨xg, hxg⟩ : ∃ xg, xg = w.heap.size := ⟨_, rfl⟩
  clear hM h7 hwf hr he hcs hnl
  go_enter Try.func26, Try.ntmps26
  go_wp2_with fail
  have HB0 := Lib.hid hb0
  clear hb0 cX
  go_loopw [5, 16] (fun out iv wr => ∃ (k : Nat) (pl : List Pk) (A : Option Addr) (c : Nat), k ≤ n ∧ iv = .int .i64 k ∧ out = .slice A k c ∧ pl.length = k ∧ Own wr (w.heap.size + 1) 82 3 A k c (pcells pl) ∧ (∀ p ∈ pl, PkAt wr w.heap.size p) ∧ pl.map Pk.d = (List.range k).map (pkD M ⟨xA, xc, tabs, first, stim, ev, pre, pri, on, ch⟩) ∧ Below (w.heap.size + 1) (w.alloc (.cells (#[.int .i64 first, .slice xA n xc, .bool stim, .int .u8 ev, .int .u8 pre, .int .u8 pri, .bool on, .bool ch] : Array Value) 71)) wr) (fun _ iv _ => n - (intOf iv).toNat)
  case atStart => exact ⟨0, [], none, 0, Nat.zero_le _, rfl, rfl, rfl, Own.nil _ _ _ _, (fun p hp => by cases hp), rfl, Below.refl _ _⟩
  case round =>
    obtain ⟨k, pl, A, c, hk, rfl, rfl, hpl, hO, hP, hd, hb⟩ := hrel
    have hbw : Below w.heap.size w wr := HB0.out.trans (hb.mono (by omega))
    by_cases hlt : k < n
    · have hltI : (k : Int) < n := by omega
      obtain ⟨t, ht⟩ : ∃ t, tabs[k]? = some t := ⟨_, List.getElem?_eq_getElem (by rw [HNL.out]; exact hlt)⟩
      have htm := List.mem_of_getElem? ht
      obtain ⟨g, o, rfl, -, hc⟩ := HX.out.2.2.2.1.below hbw (by
        intro e
        have h1 := tcells_len tabs
        rw [e, HNL.out] at h1
        simp at h1
        omega)
      have ck := hc k _ (tcells_at ht)
      have Bx : Blk wr w.heap.size 71 #[.int .i64 first, .slice (some ⟨g, o, none⟩) n xc, .bool stim, .int .u8 ev, .int .u8 pre, .int .u8 pri, .bool on, .bool ch] := (hb.block w.heap.size (by omega)).trans BXk.out
      have cx := Bx.cell
      obtain ⟨cd, hcd⟩ : ∃ cd, first + (k : Int) = cd := ⟨_, rfl⟩
      have hcd0 : 0 ≤ cd := by omega
      have hcd1 : cd < 256 := by omega
      have hes7 := HX.out.2.1 t htm
      obtain ⟨tA, tc, tes⟩ := t
      simp only at hes7
      have HT := Lib.hid (And.intro ht (And.intro htm (And.intro hpl (And.intro hO (And.intro hP (And.intro hd (And.intro hb hbw)))))))
      have hiw := i64_w hcd0 (by omega)
      have h8w := u8_w hcd0 hcd1
      have h6w := w64_w hcd0 (by omega)
      clear ht htm hc hpl hO hP hd hb hbw Bx
      go_upto_region 6 with fail
      clear hiw h8w h6w
      refine wp_named fun V hV => ?_
      obtain ⟨BR, hbV⟩ := blk1 hV
      obtain ⟨gr, hgr⟩ : ∃ gr, wr.heap.size = gr := ⟨_, rfl⟩
      rw [hgr] at BR hbV ⊢
      have HV := Lib.hid (And.intro BR (And.intro hbV hgr))
      clear hV BR hbV ck cx hgr
      generalize wr = wo at *
      go_wp2_with fail
      go_loopw [29] (fun iv wx => ∃ (j q : Nat) (A' : Option Addr) (c' : Nat), j ≤ tes.length ∧ iv = .int .i64 j ∧ q = (tbB M (tes.take j)).length ∧ Blk wx gr 82 #[.int .u8 4, .int .u8 cd, .slice A' q c'] ∧ Own wx (gr + 1) 5 1 A' q c' (u8s (tbB M (tes.take j))) ∧ Below gr wo wx) (fun iv _ => tes.length - (intOf iv).toNat)
      case atStart => exact ⟨0, 0, none, 0, Nat.zero_le _, rfl, rfl, HV.out.1, Own.nil _ _ _ _, HV.out.2.1⟩
      case round =>
        obtain ⟨j, q, A', c', hj, rfl, hq, hR, hOb, hbx⟩ := hrel
        generalize wr = wx' at *
        by_cases hlj : j < tes.length
        · have hljI : (j : Int) < tes.length := by omega
          obtain ⟨e, hej⟩ : ∃ e, tes[j]? = some e := ⟨_, List.getElem?_eq_getElem hlj⟩
          have hew := HX.out.2.2.1 _ HT.out.2.1 e (List.mem_of_getElem? hej)
          have hbw : Below w.heap.size w wx' := HT.out.2.2.2.2.2.2.2.trans ((hbx.mono (Nat.le_of_eq HV.out.2.2)).mono HT.out.2.2.2.2.2.2.2.size)
          obtain ⟨ge, oe, rfl, -, hce⟩ := (HX.out.2.2.2.2.1 k ⟨tA, tc, tes⟩ HT.out.1).below hbw (by
            intro h
            have h1 := ecells_len tes
            rw [h] at h1
            simp at h1
            omega)
          have e0 := hce _ _ (ecells_at hej (j := 0) rfl)
          have e1 := hce _ _ (ecells_at hej (j := 1) rfl)
          have e2 := hce _ _ (ecells_at hej (j := 2) rfl)
          rw [← Nat.add_assoc] at e0 e1 e2
          rw [Nat.add_zero] at e0
          have hsucc := tbB_succ M tes hej
          have hwe : ∀ e' ∈ tes.take j, e'.wf := fun e' he' => HX.out.2.2.1 _ HT.out.2.1 e' (List.mem_of_mem_take he')
          have hq2 : q ≤ 2000 := by
            have h1 := tbB_le M (tes.take j) hwe
            rw [List.length_take] at h1
            omega
          obtain ⟨es0, ar, pl0⟩ := e
          obtain ⟨ks, rfl⟩ : ∃ ks : Nat, es0 = (ks : Int) := ⟨es0.toNat, by have := hew.s0; simp only at this; omega⟩
          have hks : ks < 256 := by have := hew.s1; simp only at this; omega
          have hM2 := (HX.out.1.below hbw).below (bl1 wx' (.cells (⟨(ks : Int), ar, pl0⟩ : En).cs.toArray 76))
          have RE := Lib.hid (read_en hM2 hew (k := ks) (Int.toNat_natCast ks))
          have BZ := (Blk.new wx' 76 (⟨(ks : Int), ar, pl0⟩ : En).cs.toArray).cell
          have BZk := Lib.hid (Blk.new wx' 76 (⟨(ks : Int), ar, pl0⟩ : En).cs.toArray)
          have hbz := bl1 wx' (.cells (⟨(ks : Int), ar, pl0⟩ : En).cs.toArray 76)
          have HI := Lib.hid (And.intro hR (And.intro hOb (And.intro hbx (And.intro hq (And.intro hsucc hbz)))))
          have hj7 : (j : Int) < 1000 := by have := hes7; omega
          have mk8 := mkz8 ks hks
          clear hR hOb hbx hq hsucc hbz hbw hce hM2 hew hwe hej
          have hkw := i64_w (n := (ks : Int)) (by omega) (by omega)
          go_wp2_with fail
          clear hkw
          refine RE.out.mono ?_
          rintro x w3 ⟨A3, c3, f3, n3, rfl, hb3, hcase⟩
          have hbb3 : Below gr wo w3 := HI.out.2.2.1.trans ((HI.out.2.2.2.2.2.trans (hb3.mono HI.out.2.2.2.2.2.size)).mono (by have h1 := HI.out.2.2.1.size; have h2 := HV.out.2.2; omega))
          have R3 := (HI.out.1.below HI.out.2.2.2.2.2).below hb3
          have O3 := (HI.out.2.1.below HI.out.2.2.2.2.2).below hb3
          have cz3 := (BZk.out.below hb3).cell
          have cr3 := R3.cell
          have hz3 : gr + 1 ≤ w3.heap.size := R3.lt
          have HR3 := Lib.hid (And.intro R3 (And.intro O3 hbb3))
          clear BZ hb3 RE e0 e1 e2
          have cz3k := cz3
          clear cz3
          rcases hcase with ⟨rfl, hn3, hO⟩ | ⟨rfl, hz⟩
          · obtain rfl : ks = n3 := hn3.symm
            have HO := Lib.hid hO
            clear hO mk8
            have cz3 := cz3k
            have HA := Lib.hid (And.intro HR3.out.2.1 (And.intro (show (u8s (enB M ⟨(ks : Int), ar, pl0⟩)).length = ks * 1 by rw [List.length_map, enB_len]; simp) (And.intro HO.out.rd (And.intro (show q + ks ≤ maxLen by unfold maxLen; omega) (And.intro (show (q + ks) * 1 ≤ 140737488355328 by omega) (And.intro (show gr + 1 ≤ (w3).heap.size by first | exact hz3 | exact Nat.le_trans hz3 (bl1 w3 _).size) (And.intro HR3.out.1 HR3.out.2.2)))))))
            have cra := HA.out.2.2.2.2.2.2.1.cell
            clear cr3 cz3k
            have hjs := w64_step hlj (by omega)
            go_wp2_with (first | (at_builtin; refine wpList_app _ rfl (.tmp 51) (.tmp 52) 22 rfl (gr + 1) 5 (.int .u8 0) 1 1 Try.underlying22 info5 rfl (by decide) A' q c' _ rfl HA.out.1 _ A3 ks c3 _ rfl HA.out.2.1 HA.out.2.2.1 (u8s_one _) HA.out.2.2.2.1 HA.out.2.2.2.2.1 HA.out.2.2.2.2.2.1 ?_; intro A6 c6 w6 ho6 hg6 hbk6; have R6 := HA.out.2.2.2.2.2.2.1.grown hg6 (by intro e; have := (HA.out.1.lt e.symm).1; omega)) | (refine wpList_stB rfl 22 (.tmp 54) (.tmp 53) rfl (.slice A6 (q + ks) c6) 2 rfl rfl R6 (by simp [Value.cells]) (by kernel_rfl) (by simp [Value.cells, Value.oneCell']) ?_; intro w7 R7 hg7))
            have HJS := Lib.hid hjs
            clear hjs
            have R7 : Blk w7 gr 82 #[.int .u8 4, .int .u8 cd, .slice A6 (q + ks) c6] := R7
            have hO7 := ho6.grown hg7 (by
              rcases hA6 : blkOf A6 with _ | q6
              · exact .inl rfl
              · exact .inr (fun e => by injection e with e; have := (ho6.lt hA6).1; omega))
            rw [← List.map_append, ← HI.out.2.2.2.2.1] at hO7
            have hb7 : Below gr wo w7 := (HA.out.2.2.2.2.2.2.2.grown hg6 (by have h2 := HA.out.2.2.2.2.2.1; omega) (fun r e => by have := (HA.out.1.lt e).1; omega)).grown hg7 (by have h2 := HA.out.2.2.2.2.2.1; have h3 := hg6.size; omega) (fun r e => by injection e with e; omega)
            have hq7 : q + ks = (tbB M (tes.take (j + 1))).length := by rw [HI.out.2.2.2.2.1, List.length_append, ← HI.out.2.2.2.1, enB_len]; simp
            have FIN := Lib.hid (And.intro hq7 (And.intro R7 (And.intro hO7 hb7)))
            clear hq7 R7 hO7 hb7 hg7 hg6 ho6 hbk6 R6
            have hjs := HJS.out
            go_roundw
            case rel => exact ⟨j + 1, q + ks, A6, c6, hlj, by first | rfl | (rw [hjs]; rfl), FIN.out.1, FIN.out.2.1, FIN.out.2.2.1, FIN.out.2.2.2⟩
            case measure =>
              try rw [hjs]
              simp only [intOf]
              exact meas_lt2 hlj
          · have HZ := Lib.hid hz
            clear hz
            have hbm := bl1 w3 (.cells (u8s (zeros ks)).toArray 5)
            have cz3 := cz3k
            have RM := Lib.hid (Blk.rd (cs := u8s (zeros ks)) (Blk.new w3 5 (u8s (zeros ks)).toArray))
            have HA := Lib.hid (And.intro (HR3.out.2.1.below hbm) (And.intro (show (u8s (enB M ⟨(ks : Int), ar, pl0⟩)).length = ks * 1 by rw [List.length_map, enB_len]; simp) (And.intro (show Rd (w3.alloc (.cells (u8s (zeros ks)).toArray 5)) (w3.alloc (.cells (u8s (zeros ks)).toArray 5)).heap.size (some ⟨w3.heap.size, 0, none⟩) (u8s (enB M ⟨(ks : Int), ar, pl0⟩)) by rw [HZ.out]; exact RM.out) (And.intro (show q + ks ≤ maxLen by unfold maxLen; omega) (And.intro (show (q + ks) * 1 ≤ 140737488355328 by omega) (And.intro (show gr + 1 ≤ (w3.alloc (.cells (u8s (zeros ks)).toArray 5)).heap.size by first | exact hz3 | exact Nat.le_trans hz3 (bl1 w3 _).size) (And.intro (HR3.out.1.below hbm) (HR3.out.2.2.trans (hbm.mono (by have h1 := HV.out.2.2; omega))))))))))
            have cra := HA.out.2.2.2.2.2.2.1.cell
            clear cr3 cz3k
            have hjs := w64_step hlj (by omega)
            go_wp2_with (first | (at_builtin; refine wpList_app _ rfl (.tmp 51) (.tmp 52) 22 rfl (gr + 1) 5 (.int .u8 0) 1 1 Try.underlying22 info5 rfl (by decide) A' q c' _ rfl HA.out.1 _ (some ⟨w3.heap.size, 0, none⟩) ks ks _ rfl HA.out.2.1 HA.out.2.2.1 (u8s_one _) HA.out.2.2.2.1 HA.out.2.2.2.2.1 HA.out.2.2.2.2.2.1 ?_; intro A6 c6 w6 ho6 hg6 hbk6; have R6 := HA.out.2.2.2.2.2.2.1.grown hg6 (by intro e; have := (HA.out.1.lt e.symm).1; omega)) | (refine wpList_stB rfl 22 (.tmp 54) (.tmp 53) rfl (.slice A6 (q + ks) c6) 2 rfl rfl R6 (by simp [Value.cells]) (by kernel_rfl) (by simp [Value.cells, Value.oneCell']) ?_; intro w7 R7 hg7))
            have HJS := Lib.hid hjs
            clear hjs
            have R7 : Blk w7 gr 82 #[.int .u8 4, .int .u8 cd, .slice A6 (q + ks) c6] := R7
            have hO7 := ho6.grown hg7 (by
              rcases hA6 : blkOf A6 with _ | q6
              · exact .inl rfl
              · exact .inr (fun e => by injection e with e; have := (ho6.lt hA6).1; omega))
            rw [← List.map_append, ← HI.out.2.2.2.2.1] at hO7
            have hb7 : Below gr wo w7 := (HA.out.2.2.2.2.2.2.2.grown hg6 (by have h2 := HA.out.2.2.2.2.2.1; omega) (fun r e => by have := (HA.out.1.lt e).1; omega)).grown hg7 (by have h2 := HA.out.2.2.2.2.2.1; have h3 := hg6.size; omega) (fun r e => by injection e with e; omega)
            have hq7 : q + ks = (tbB M (tes.take (j + 1))).length := by rw [HI.out.2.2.2.2.1, List.length_append, ← HI.out.2.2.2.1, enB_len]; simp
            have FIN := Lib.hid (And.intro hq7 (And.intro R7 (And.intro hO7 hb7)))
            clear hq7 R7 hO7 hb7 hg7 hg6 ho6 hbk6 R6
            have hjs := HJS.out
            go_roundw
            case rel => exact ⟨j + 1, q + ks, A6, c6, hlj, by first | rfl | (rw [hjs]; rfl), FIN.out.1, FIN.out.2.1, FIN.out.2.2.1, FIN.out.2.2.2⟩
            case measure =>
              try rw [hjs]
              simp only [intOf]
              exact meas_lt2 hlj
        · obtain rfl : j = tes.length := by omega
          rw [List.take_of_length_le (Nat.le_refl _)] at hq hOb
          have hgw := HV.out.2.2
          have hbx' : Below wo.heap.size wo wx' := hbx.mono (by omega)
          have hOx := HT.out.2.2.2.1.below hbx'
          have cr := hR.cell
          have RB := Lib.hid (Blk.rd (cs := [.int .u8 4, .int .u8 cd, .slice A' q c']) (Blk.new wx' 82 #[.int .u8 4, .int .u8 cd, .slice A' q c']))
          have hb2 := bl1 wx' (.cells #[.int .u8 4, .int .u8 cd, .slice A' q c'] 82)
          have hwz : w.heap.size + 1 ≤ wx'.heap.size := by have h1 := HT.out.2.2.2.2.2.2.1.size; have h2 := hbx'.size; rw [World.size_alloc] at h1; omega
          have HE := Lib.hid (And.intro hq (And.intro hOb (And.intro hbx' (And.intro (hOx.below hb2) hb2))))
          have hm1 : k + 1 ≤ maxLen := by unfold maxLen; omega
          have hm2 : (k + 1) * 32 ≤ 140737488355328 := by omega
          have hm3 : w.heap.size + 1 ≤ (wx'.alloc (.cells #[.int .u8 4, .int .u8 cd, .slice A' q c'] 82)).heap.size := Nat.le_trans hwz hb2.size
          have HM := Lib.hid (And.intro hm1 (And.intro hm2 (And.intro hm3 hgw)))
          clear hq hOb hbx hbx' hOx hb2 hm1 hm2 hm3 hR hlj hgw hwz
          have hks6 := w64_step hlt (by omega)
          go_wp2_with (at_builtin; refine wpList_app _ rfl (.tmp 56) (.tmp 58) 78 rfl (w.heap.size + 1) 82 (.agg #[.int .u8 0, .int .u8 0, .slice none 0 0]) 3 32 Try.underlying78 info82s rfl (by decide) A k c (pcells pl) rfl HE.out.2.2.2.1 _ _ 1 1 [.int .u8 4, .int .u8 cd, .slice A' q c'] rfl rfl RB.out (by simp [Value.oneCell']) HM.out.1 HM.out.2.1 HM.out.2.2.1 ?_; intro A5 c5 w5 ho5 hg5 hbk5)
          have HKS := Lib.hid hks6
          clear hks6
          obtain ⟨p, hp⟩ : ∃ p : Pk, p = ⟨cd, A', c', tbB M tes⟩ := ⟨_, rfl⟩
          have hpc : p.cs = [.int .u8 4, .int .u8 cd, .slice A' q c'] := by rw [hp]; simp only [Pk.cs, ← HE.out.1]
          rw [← hpc, ← pcells_snoc] at ho5
          have hb5 : Below (w.heap.size + 1) (w.alloc (.cells (#[.int .i64 first, .slice (some ⟨g, o, none⟩) n xc, .bool stim, .int .u8 ev, .int .u8 pre, .int .u8 pri, .bool on, .bool ch] : Array Value) 71)) w5 :=
            (HT.out.2.2.2.2.2.2.1.trans ((HE.out.2.2.1.trans (HE.out.2.2.2.2.mono HE.out.2.2.1.size)).mono (by have h1 := HT.out.2.2.2.2.2.2.1.size; rw [World.size_alloc] at h1; exact h1))).grown hg5 HM.out.2.2.1 (fun r e => (HE.out.2.2.2.1.lt e).1)
          have hP5 : ∀ p' ∈ pl ++ [p], PkAt w5 w.heap.size p' := fun p' hp' => by
            have key : ∀ {A9 : Option Addr} {n9 c9 b9 : Nat} {v9 : List Value}, Own (wx'.alloc (.cells #[.int .u8 4, .int .u8 cd, .slice A' q c'] 82)) b9 5 1 A9 n9 c9 v9 → Own w5 b9 5 1 A9 n9 c9 v9 := fun h9 => h9.grown hg5 (own_own_ne h9 HE.out.2.2.2.1 (by decide))
            rcases List.mem_append.1 hp' with h | h
            · exact key (((HT.out.2.2.2.2.1 p' h).below HE.out.2.2.1).below HE.out.2.2.2.2)
            · rw [List.mem_singleton.1 h, hp]
              unfold PkAt
              have := key ((HE.out.2.1.below HE.out.2.2.2.2).more (base' := w.heap.size) (by have h1 := HT.out.2.2.2.2.2.2.1.size; have h2 := HM.out.2.2.2; rw [World.size_alloc] at h1; omega))
              rw [HE.out.1] at this
              exact this
          have hd5 : (pl ++ [p]).map Pk.d = (List.range (k + 1)).map (pkD M ⟨some ⟨g, o, none⟩, xc, tabs, first, stim, ev, pre, pri, on, ch⟩) := by
            rw [List.map_append, List.range_succ, List.map_append, HT.out.2.2.2.2.2.1]
            congr 1
            have ht := HT.out.1
            rw [hp]
            simp only [List.map_cons, List.map_nil, Pk.d, pkD, List.getD_eq_getElem?_getD, ht, Option.getD_some, hcd]
          have FIN := Lib.hid (And.intro hb5 (And.intro hP5 (And.intro hd5 ho5)))
          clear hb5 hP5 hd5 ho5 hg5 hbk5 hpc hp
          have hks6 := HKS.out
          go_roundw
          case rel => exact ⟨k + 1, pl ++ [p], A5, c5, hlt, by first | rfl | (rw [hks6]; rfl), rfl, by rw [List.length_append, HT.out.2.2.1]; rfl, FIN.out.2.2.2, FIN.out.2.1, FIN.out.2.2.1, FIN.out.1⟩
          case measure =>
            try rw [hks6]
            simp only [intOf]
            exact meas_lt2 hlt
    · obtain rfl : k = n := by omega
      have FIN := Lib.hid (And.intro hpl (And.intro hO (And.intro hP (And.intro hd hbw))))
      clear hpl hO hP hd hb hbw hlt
      go_wp2_with fail
      go_ret
      obtain ⟨f1, f2, f3, f4, f5⟩ := FIN.out
      have hl := HNL.out
      subst hl
      exact ⟨A, c, pl, rfl, f2.more (Nat.le_succ _), f3, f4, f5⟩
end Go.Proofs.Yteecgdbicokgoaa
