/- The bus: nodes. -/
import Derived.Test.YtbmkfjgodgmjnaaD5
namespace Go.Proofs.Ytbmkfjgodgmjnaa
open Go.RowKit
set_option linter.unusedVariables false
set_option linter.unusedSimpArgs false
theorem info47 : (Try.prog.info? 47).map (fun i => (i.zero, i.size, i.bytes)) = some (some (.pointer none), 1, 8) := by kernel_rfl
/-- A box that New makes. -/
def gNew (B : Nat) (Φ : Who) (W : World) (a : Bx) : GhB := ⟨⟨fun g => .tuple #[.pointer (some ⟨g.2, 0, none⟩), .int .i64 0], fun g w => ∃ Φ', W.heap.size ≤ g.2 ∧ BX Φ' B w g.2 a ∧ Ext B (fun _ => False) Φ Φ' W w⟩,
  fun g w w' ⟨Φ', h1, h2, h3⟩ hb => ⟨Φ', h1, h2.below hb, h3.grow hb⟩⟩
def gRNew (B : Nat) (Φ : Who) (W : World) (a : Bx) : GhB := ⟨⟨fun g => .tuple #[.pointer (some ⟨g.2, 0, none⟩), .int .i64 0], fun g w => ∃ Φ', W.heap.size ≤ g.2 ∧ RB Φ' B w g.2 a ∧ Ext B (fun _ => False) Φ Φ' W w⟩,
  fun g w w' ⟨Φ', h1, h2, h3⟩ hb => ⟨Φ', h1, h2.below hb, h3.grow hb⟩⟩
/-- The nodes that were made so far. -/
structure ND (B : Nat) (W : World) (fl : Nat → List Flt) (k : Nat) (Φ : Who) (A : Option Addr) (c : Nat) (L : List (Option Nat)) (A' : Option Addr) (c' : Nat) (L' : List (Option Nat)) (s t : Nat → Bx) (w : World) : Prop where
  p : Bxs Φ B w (fun q => some q ∈ L) s
  r : Rbs Φ B w (fun q => some q ∈ L') t
  n : Nu Φ w
  rp : OwC Φ (0, 8) w W.heap.size 28 1 A k c (ptrs L)
  rr : OwC Φ (0, 8) w W.heap.size 47 1 A' k c' (ptrs L')
  bw : B ≤ W.heap.size
  b : B ≤ w.heap.size
  bel : Below W.heap.size W w
  l : L.length = k
  l' : L'.length = k
  nd : L.Nodup
  nd' : L'.Nodup
  vs : ∀ i, i < k → ∃ q, L[i]? = some (some q) ∧ s q = b0 ((fl i).take 4)
  vt : ∀ i, i < k → ∃ q, L'[i]? = some (some q) ∧ t q = b0 ((fl i).take 4)
section
variable {B : Nat} {W w w' : World} {fl : Nat → List Flt} {k : Nat} {Φ Φ' : Who} {A A' : Option Addr} {c c' : Nat} {L L' : List (Option Nat)} {s t : Nat → Bx}
theorem ND.below (h : ND B W fl k Φ A c L A' c' L' s t w) (hb : Below w.heap.size w w') : ND B W fl k Φ A c L A' c' L' s t w' :=
  ⟨h.p.below hb, h.r.below hb, h.n.below hb, h.rp.below hb, h.rr.below hb, h.bw, Nat.le_trans h.b hb.size, h.bel.trans (hb.mono h.bel.size), h.l, h.l', h.nd, h.nd', h.vs, h.vt⟩
theorem ND.ext (h : ND B W fl k Φ A c L A' c' L' s t w) (hx : Ext B (fun _ => False) Φ Φ' w w') : ND B W fl k Φ' A c L A' c' L' s t w' :=
  ⟨h.p.ext hx (fun _ _ _ _ h => h) (fun h => h), h.r.ext hx (fun _ _ h => h) (fun h => h), hx.nu, ⟨h.rp.1.kept (fun g hg => hx.none_.block g (h.rp.1.lt hg).2), fun g hg => (hx.1 g (h.rp.1.lt hg).2).trans (h.rp.2 g hg)⟩, ⟨h.rr.1.kept (fun g hg => hx.none_.block g (h.rr.1.lt hg).2), fun g hg => (hx.1 g (h.rr.1.lt hg).2).trans (h.rr.2 g hg)⟩, h.bw, Nat.le_trans h.b hx.size, h.bel.trans (hx.none_.mono h.bel.size), h.l, h.l', h.nd, h.nd', h.vs, h.vt⟩
end
/-- What nodes leaves. -/
def NodesP (B : Nat) (W0 : World) (fl : Nat → List Flt) (Φ : Who) (w : World) (e : Ending) (w' : World) : Prop :=
  ∃ A c q0 q1 q2 A' c' r0 r1 r2 s t Φ', e = .returned (.tuple #[.slice A 3 c, .slice A' 3 c']) ∧ 3 ≤ c ∧ c ≤ maxLen ∧ 3 ≤ c' ∧ c' ≤ maxLen ∧ q0 ≠ q1 ∧ q0 ≠ q2 ∧ q1 ≠ q2 ∧ r0 ≠ r1 ∧ r0 ≠ r2 ∧ r1 ≠ r2 ∧
    s q0 = b0 ((fl 0).take 4) ∧ s q1 = b0 ((fl 1).take 4) ∧ s q2 = b0 ((fl 2).take 4) ∧ t r0 = b0 ((fl 0).take 4) ∧ t r1 = b0 ((fl 1).take 4) ∧ t r2 = b0 ((fl 2).take 4) ∧
    NS B (fun q => q = q0 ∨ q = q1 ∨ q = q2) (fun r => r = r0 ∨ r = r1 ∨ r = r2) W0 A [some q0, some q1, some q2] A' [some r0, some r1, some r2] s t Φ' w' ∧ Below w.heap.size w w' ∧ ∀ g, g < w.heap.size → Φ' g = Φ g
/-- Blocks of owner (0, 8) are nobody's from now on. -/
def free8 (Φ : Who) : Who := fun g => if Φ g = (0, 8) then (0, 9) else Φ g
theorem free8_ne {Φ : Who} {g : Nat} {k : Nat × Nat} (h : Φ g = k) (hk : k ≠ (0, 8)) : free8 Φ g = k := by
  unfold free8
  rw [h, if_neg hk]
theorem BX.free8 {Φ : Who} {B q : Nat} {w : World} {a : Bx} (h : BX Φ B w q a) : BX (free8 Φ) B w q a := by
  obtain ⟨h1, h2, h3, A0, c0, A1, c1, A2, c2, h4, h5, h6, h7⟩ := h
  refine ⟨h1, h2, free8_ne h3 (by simp), A0, c0, A1, c1, A2, c2, h4, fun hn => ?_, ⟨h6.1, fun g hg => free8_ne (h6.2 g hg) (by simp)⟩, ⟨h7.1, fun g hg => free8_ne (h7.2 g hg) (by simp)⟩⟩
  obtain ⟨b, o, e1, e2, e3, e4⟩ := h5 hn
  exact ⟨b, o, e1, e2, e3.imp id fun h => free8_ne h (by simp), e4⟩
theorem RB.free8 {Φ : Who} {B r : Nat} {w : World} {a : Bx} (h : RB Φ B w r a) : RB (Go.Proofs.Ytbmkfjgodgmjnaa.free8 Φ) B w r a := by
  obtain ⟨h1, h2, h3, A0, c0, A1, c1, A2, c2, h4, h5, h6, h7⟩ := h
  exact ⟨h1, h2, free8_ne h3 (by simp), A0, c0, A1, c1, A2, c2, h4, ⟨h5.1, fun g hg => free8_ne (h5.2 g hg) (by simp)⟩, ⟨h6.1, fun g hg => free8_ne (h6.2 g hg) (by simp)⟩, ⟨h7.1, fun g hg => free8_ne (h7.2 g hg) (by simp)⟩⟩
theorem OwC.rdc8 {Φ : Who} {B B' : Nat} {w : World} {A : Option Addr} {e size n c : Nat} {xs : List Value} (h : OwC Φ (0, 8) w B' e size A n c xs) : RdC (free8 Φ) B w A xs := fun hn => by
  obtain ⟨b, o, h1, h2, h3⟩ := h.1.rd hn
  refine ⟨b, o, h1, h2, .inr ?_, h3⟩
  have := h.2 b (by rw [h1]; rfl)
  unfold free8
  rw [this]
  rfl
/-- A row of nodes, one more behind it. -/
theorem row_more {B : Nat} {Φ : Who} {w w2 : World} {e : TypeId} {A A2 : Option Addr} {n c c2 : Nat} {vs : List Value} {x : Value} (ho : OwC Φ (0, 8) w B e 1 A n c vs) (hN : Nu Φ w) (h2 : Own w2 B e 1 A2 (n + 1) c2 (vs ++ [x])) (hg : (w.alloc (.cells #[x] e)).grownBy w2 (blkOf A)) (hd : blkOf A2 = blkOf A ∨ blkOf A2 = some (w.alloc (.cells #[x] e)).heap.size) :
    ∃ Φ2, OwC Φ2 (0, 8) w2 B e 1 A2 (n + 1) c2 (vs ++ [x]) ∧ Ext B (fun c => c = (0, 8)) Φ Φ2 w w2 ∧ ∀ g, Φ g = (0, 8) → Φ2 g = (0, 8) := by
  have hb := bl1 w (.cells #[x] e)
  have oa := ho.below hb
  have hx := ((Ext.of_below (B := B) (S := fun c => c = (0, 8)) hN hb).grown (fun g hg => ⟨(oa.1.lt hg).1, oa.2 g hg⟩) hg).paint (A := A2) (k := (0, 8)) (fun g hg => ⟨(h2.lt hg).2, fun hlt => by
    rcases hd with e | e
    · exact ho.2 g (by rw [← e]; exact hg)
    · rw [e] at hg
      simp only [Option.some.injEq] at hg
      simp at hg
      omega⟩)
  refine ⟨_, OwC.paint_self h2, hx, fun g hg => ?_⟩
  by_cases hb : blkOf A2 = some g
  · exact paint_at hb
  · rw [paint_ne hb, hg]
theorem nd_next {B : Nat} {W : World} {fl : Nat → List Flt} {k : Nat} {Φ : Who} {A A' A2 A3 : Option Addr} {c c' c2 c3 : Nat} {L L' : List (Option Nat)} {s t : Nat → Bx} {w w2 w3 : World} {q r : Nat} (h : ND B W fl k Φ A c L A' c' L' s t w)
    (hq : BX Φ B w q (b0 ((fl k).take 4))) (hr : RB Φ B w r (b0 ((fl k).take 4))) (hqL : some q ∉ L) (hrL : some r ∉ L')
    (h2 : Own w2 W.heap.size 28 1 A2 (k + 1) c2 (ptrs L ++ [ptr (some q)])) (hg2 : (w.alloc (.cells #[ptr (some q)] 28)).grownBy w2 (blkOf A)) (hd2 : blkOf A2 = blkOf A ∨ blkOf A2 = some (w.alloc (.cells #[ptr (some q)] 28)).heap.size)
    (h3 : Own w3 W.heap.size 47 1 A3 (k + 1) c3 (ptrs L' ++ [ptr (some r)])) (hg3 : (w2.alloc (.cells #[ptr (some r)] 47)).grownBy w3 (blkOf A')) (hd3 : blkOf A3 = blkOf A' ∨ blkOf A3 = some (w2.alloc (.cells #[ptr (some r)] 47)).heap.size) :
    ∃ Φ4, ND B W fl (k + 1) Φ4 A2 c2 (L ++ [some q]) A3 c3 (L' ++ [some r]) (upd s q (b0 ((fl k).take 4))) (upd t r (b0 ((fl k).take 4))) w3 ∧ ∀ g, g < W.heap.size → Φ4 g = Φ g := by
  obtain ⟨Φ2, o2, x2, k2⟩ := row_more h.rp h.n h2 hg2 hd2
  have hne : blkOf A' = none ∨ blkOf A' ≠ blkOf A := by
    have hb := bl1 w (.cells #[ptr (some q)] 28)
    exact own_own_ne (h.rr.1.below hb) (h.rp.1.below hb) (by decide)
  have rr2 : OwC Φ2 (0, 8) w2 W.heap.size 47 1 A' k c' (ptrs L') := ⟨(h.rr.1.below (bl1 w (.cells #[ptr (some q)] 28))).grown hg2 hne, fun g hg => k2 g (h.rr.2 g hg)⟩
  obtain ⟨Φ3, o3, x3, k3⟩ := row_more rr2 x2.nu h3 hg3 hd3
  have hne2 : blkOf A2 = none ∨ blkOf A2 ≠ blkOf A' := by
    have hb := bl1 w2 (.cells #[ptr (some r)] 47)
    exact own_own_ne (o2.1.below hb) (rr2.1.below hb) (by decide)
  have o23 : OwC Φ3 (0, 8) w3 W.heap.size 28 1 A2 (k + 1) c2 (ptrs L ++ [ptr (some q)]) := ⟨(o2.1.below (bl1 w2 (.cells #[ptr (some r)] 47))).grown hg3 hne2, fun g hg => k3 g (o2.2 g hg)⟩
  have x := x2.trans x3
  have xB := x.mono h.bw (fun _ h => h)
  have no : ∀ (q j : Nat), j < 3 → ¬ ((q, j) : Nat × Nat) = (0, 8) := fun q j hj hh => by simp at hh; omega
  have no3 : ∀ (q : Nat), ¬ ((q, 3) : Nat × Nat) = (0, 8) := fun q hh => by simp at hh
  have p3 := h.p.ext xB (fun q j _ hj => no q j hj) (by simp)
  have r3 := h.r.ext xB (fun q _ => no3 q) (by simp)
  have q3 := hq.ext xB (fun j hj => no q j hj) (by simp)
  have rq3 := hr.ext xB (no3 r) (by simp)
  refine ⟨Φ3, ⟨fun y hy => ?_, fun y hy => ?_, x.nu, by rw [ptrs, List.map_append]; exact o23, by rw [ptrs, List.map_append]; exact o3, h.bw, Nat.le_trans h.b x.size, h.bel.trans (x.below h.bel.size), by rw [List.length_append, h.l]; rfl, by rw [List.length_append, h.l']; rfl, ?_, ?_, fun i hi => ?_, fun i hi => ?_⟩, fun g hg => x.1 g (Nat.lt_of_lt_of_le hg h.bel.size)⟩
  · by_cases hyq : y = q
    · subst hyq; rw [upd_eq]; exact q3
    · rw [upd_ne _ _ hyq]
      exact p3 y (by simpa [hyq] using hy)
  · by_cases hyr : y = r
    · subst hyr; rw [upd_eq]; exact rq3
    · rw [upd_ne _ _ hyr]
      exact r3 y (by simpa [hyr] using hy)
  · rw [List.nodup_append]
    exact ⟨h.nd, by simp, fun a ha b hb => by simp at hb; subst hb; exact fun e => hqL (e ▸ ha)⟩
  · rw [List.nodup_append]
    exact ⟨h.nd', by simp, fun a ha b hb => by simp at hb; subst hb; exact fun e => hrL (e ▸ ha)⟩
  · rcases Nat.lt_or_ge i k with hik | hik
    · obtain ⟨y, hy, hv⟩ := h.vs i hik
      have hyq : y ≠ q := fun e => by subst e; exact hqL (List.mem_of_getElem? hy)
      exact ⟨y, by rw [List.getElem?_append_left (by rw [h.l]; exact hik)]; exact hy, by rw [upd_ne _ _ hyq]; exact hv⟩
    · obtain rfl : i = k := by omega
      exact ⟨q, by rw [List.getElem?_append_right (by rw [h.l]; exact Nat.le_refl _), h.l, Nat.sub_self]; rfl, upd_eq _ _ _⟩
  · rcases Nat.lt_or_ge i k with hik | hik
    · obtain ⟨y, hy, hv⟩ := h.vt i hik
      have hyq : y ≠ r := fun e => by subst e; exact hrL (List.mem_of_getElem? hy)
      exact ⟨y, by rw [List.getElem?_append_left (by rw [h.l']; exact hik)]; exact hy, by rw [upd_ne _ _ hyq]; exact hv⟩
    · obtain rfl : i = k := by omega
      exact ⟨r, by rw [List.getElem?_append_right (by rw [h.l']; exact Nat.le_refl _), h.l', Nat.sub_self]; rfl, upd_eq _ _ _⟩
set_option maxRecDepth 100000 in
set_option maxHeartbeats 4000000 in
theorem nodes_any (B : Nat) (W0 : World) (Φ : Who) (w : World) (hB : B ≤ w.heap.size) (hN : Nu Φ w) (hN8 : ∀ g, Φ g ≠ (0, 8)) (hbW0 : Below W0.heap.size W0 w) (hW0 : W0.heap.size ≤ B) (Ad : Nat → Option Addr) (ns cs : Nat → Nat) (fl : Nat → List Flt)
    (hl : ∀ i, i < 3 → (fl i).length = ns i ∧ ns i ≤ cs i ∧ cs i ≤ maxLen ∧ (Ad i = none → ns i = 0 ∧ cs i = 0) ∧ Rd w w.heap.size (Ad i) (flcells (fl i)) ∧ ∀ x ∈ fl i, x.wf) :
    Calls Try.prog 36 #[.agg #[.slice (Ad 0) (ns 0) (cs 0), .slice (Ad 1) (ns 1) (cs 1), .slice (Ad 2) (ns 2) (cs 2)]] w (NodesP B W0 fl Φ w) := by
  have HL := Lib.hid hl
  clear hl
  go_enter Try.func36, Try.ntmps36
  go_upto_region 1 with fail
  refine wp_named fun W hW => ?_
  obtain ⟨BW, hbW⟩ := blk1 (c1 := #[.slice (Ad 0) (ns 0) (cs 0), .slice (Ad 1) (ns 1) (cs 1), .slice (Ad 2) (ns 2) (cs 2)]) hW
  clear hW
  have hzW := hbW.size
  have HC : Hid (∀ k, k < 3 → ∀ w', Below W.heap.size W w' → w'.cell? ⟨w.heap.size, k, none⟩ = some (.slice (Ad k) (ns k) (cs k))) := Lib.hid fun k hk w' hb => by
    rw [(BW.below hb).cell]
    rcases (by omega : k = 0 ∨ k = 1 ∨ k = 2) with rfl | rfl | rfl <;> rfl
  have H0 : Hid (ND B W fl 0 Φ none 0 [] none 0 [] (fun _ => b0 []) (fun _ => b0 []) W) := Lib.hid ⟨fun q h => by (cases h), fun q h => by (cases h), hN.below hbW, OwC.nil _ _ _ _ _ _, OwC.nil _ _ _ _ _ _, Nat.le_trans hB hzW, Nat.le_trans hB hzW, Below.refl _ _, rfl, rfl, List.nodup_nil, List.nodup_nil, fun i hi => by omega, fun i hi => by omega⟩
  have HQ : Hid (∀ A c L A' c' L' s t Φ' w', ND B W fl 3 Φ' A c L A' c' L' s t w' → (∀ g, g < W.heap.size → Φ' g = Φ g) → NodesP B W0 fl Φ w (.returned (.tuple #[.slice A 3 c, .slice A' 3 c'])) w') := Lib.hid fun A c L A' c' L' s t Φ' w' h hΦ => by
    obtain ⟨q0, l0, v0⟩ := h.vs 0 (by decide)
    obtain ⟨q1, l1, v1⟩ := h.vs 1 (by decide)
    obtain ⟨q2, l2, v2⟩ := h.vs 2 (by decide)
    obtain ⟨r0, m0, u0⟩ := h.vt 0 (by decide)
    obtain ⟨r1, m1, u1⟩ := h.vt 1 (by decide)
    obtain ⟨r2, m2, u2⟩ := h.vt 2 (by decide)
    have eL : L = [some q0, some q1, some q2] := by
      have := h.l
      match L, this with
      | [a, b, c], _ => simp at l0 l1 l2; rw [l0, l1, l2]
    have eL' : L' = [some r0, some r1, some r2] := by
      have := h.l'
      match L', this with
      | [a, b, c], _ => simp at m0 m1 m2; rw [m0, m1, m2]
    subst eL eL'
    have nd := h.nd
    have nd' := h.nd'
    simp at nd nd'
    refine ⟨A, c, q0, q1, q2, A', c', r0, r1, r2, s, t, free8 Φ', rfl, h.rp.1.2.1, h.rp.1.2.2.1, h.rr.1.2.1, h.rr.1.2.2.1, nd.1.1, nd.1.2, nd.2, nd'.1.1, nd'.1.2, nd'.2, v0, v1, v2, u0, u1, u2, ⟨fun q hq => (h.p q (by simpa using hq)).free8, fun r hr => (h.r r (by simpa using hr)).free8, fun g hg => free8_ne (h.n g hg) (by simp), h.rp.rdc8, h.rr.rdc8, h.b, hbW0.trans ((hbW.trans (h.bel.mono hzW)).mono hbW0.size), hW0⟩, hbW.trans (h.bel.mono hzW), fun g hg => ?_⟩
    rw [← hΦ g (by omega)]
    exact free8_ne rfl (by rw [hΦ g (by omega)]; exact hN8 g)
  clear BW
  go_wp2_with fail
  go_loopw [4, 5, 11] (fun av bv iv wr => ∃ (k : Nat) (Φ' : Who) (A : Option Addr) (c : Nat) (L : List (Option Nat)) (A' : Option Addr) (c' : Nat) (L' : List (Option Nat)) (s t : Nat → Bx), k ≤ 3 ∧ iv = .int .i64 k ∧ av = .slice A k c ∧ bv = .slice A' k c' ∧ ND B W fl k Φ' A c L A' c' L' s t wr ∧ Hid (∀ g, g < W.heap.size → Φ' g = Φ g)) (fun _ _ iv _ => 3 - (intOf iv).toNat)
  case atStart => exact ⟨0, Φ, none, 0, [], none, 0, [], _, _, by decide, rfl, rfl, rfl, H0.out, Lib.hid fun g _ => rfl⟩
  case round =>
    obtain ⟨k, Φ1, A, c, L, A', c', L', s, t, hk, rfl, rfl, rfl, HT, hΦ1⟩ := hrel
    clear H0
    have hzr := HT.bel.size
    by_cases hlt : k < 3
    · have hlt' : (k : Int) < 3 := by omega
      obtain ⟨g1, g2, g3, g4, g5, g6⟩ := HL.out k hlt
      obtain ⟨nk, hnk⟩ : ∃ n, ns k = n := ⟨_, rfl⟩
      obtain ⟨ck, hck⟩ : ∃ n, cs k = n := ⟨_, rfl⟩
      obtain ⟨Ak, hAk⟩ : ∃ n, Ad k = n := ⟨_, rfl⟩
      have RC0 := fun w' (hb : Below wr.heap.size wr w') => HC.out k hlt w' (HT.bel.trans (hb.mono hzr))
      rw [hnk] at g1 g2 g4
      rw [hck] at g2 g3 g4
      rw [hAk] at g4 g5
      rw [hnk, hck, hAk] at RC0
      have g3' := g3
      unfold maxLen at g3'
      have hbwr : Below w.heap.size w wr := hbW.trans (HT.bel.mono hzW)
      obtain ⟨m, hm⟩ : ∃ m, min nk 4 = m := ⟨_, rfl⟩
      have hfw : Hid (∀ x ∈ (fl k).take 4, x.wf) := Lib.hid fun x hx => g6 x (List.mem_of_mem_take hx)
      have hfl : Hid (((fl k).take 4).length = m) := Lib.hid (by rw [List.length_take, g1]; omega)
      have hfr : Hid (∀ w', Below wr.heap.size wr w' → Rd w' w'.heap.size Ak (flcells ((fl k).take 4))) := Lib.hid fun w' hb => by
        rw [flcells_take]
        have hbw' := hbwr.trans (hb.mono hbwr.size)
        exact ((g5.below hbw').more hbw'.size).take _
      have hA4 : Hid (Ak = none → m = 0 ∧ ck = 0) := Lib.hid fun h => by have := g4 h; exact ⟨by omega, this.2⟩
      have hm4 : m ≤ 4 := by omega
      have hmn : m ≤ nk := by omega
      have hmcI : (m : Int) ≤ ck := by omega
      have NW : Hid (∀ w', Below wr.heap.size wr w' → Calls Try.prog 15 #[.slice Ak m ck] w' (NewP Φ1 B w' ((fl k).take 4))) := Lib.hid fun w' hb =>
        new_yes Φ1 B Ak m ck _ w' (Nat.le_trans HT.b hb.size) (HT.n.below hb) hfl.out (hfr.out w' hb) hA4.out (by omega) hfw.out
      have HTH := Lib.hid HT
      have hnk' := hnk
      have hck' := hck
      have hAk' := hAk
      clear g1 g2 g4 g5 g6 hnk hck hAk HT g3
      have hif : (if (4 : Int) < (nk : Int) then (4 : Int) else (nk : Int)) = (m : Int) := by split <;> omega
      go_wp2_with fail
      refine wp_region_any (by kernel_rfl) ?_
      refine wpAny_g (fun w' => Below wr.heap.size wr w') Bel (mkG [(9, gNew B Φ1 wr (b0 ((fl k).take 4)))]) [] [] (by kernel_rfl) (by kernel_rfl) (by kernel_rfl) (stays_mk _ _) (Below.refl _ _).drew ?_
      first
        | (refine wpH_skip (by rfl) (by rfl) ?_; try simp only [Act.put, List.setIfInBounds_toArray, List.set_cons_zero, List.set_cons_succ, Nat.reduceAdd])
        | (refine wpH_val (v := ?_) (by rfl) (by rfl) ?_ ?_; rotate_left; · (intro w' hS hF; go_simp; first | done | with_reducible rfl)
           try simp only [Act.put, List.setIfInBounds_toArray, List.set_cons_zero, List.set_cons_succ, Nat.reduceAdd])
      first
        | (refine wpH_skip (by rfl) (by rfl) ?_; try simp only [Act.put, List.setIfInBounds_toArray, List.set_cons_zero, List.set_cons_succ, Nat.reduceAdd])
        | (refine wpH_val (v := ?_) (by rfl) (by rfl) ?_ ?_; rotate_left; · (intro w' hS hF; go_simp; first | done | with_reducible rfl)
           try simp only [Act.put, List.setIfInBounds_toArray, List.set_cons_zero, List.set_cons_succ, Nat.reduceAdd])
      first
        | (refine wpH_skip (by rfl) (by rfl) ?_; try simp only [Act.put, List.setIfInBounds_toArray, List.set_cons_zero, List.set_cons_succ, Nat.reduceAdd])
        | (refine wpH_val (v := ?_) (by rfl) (by rfl) ?_ ?_; rotate_left; · (intro w' hS hF; go_simp; first | done | with_reducible rfl)
           try simp only [Act.put, List.setIfInBounds_toArray, List.set_cons_zero, List.set_cons_succ, Nat.reduceAdd])
      first
        | (refine wpH_skip (by rfl) (by rfl) ?_; try simp only [Act.put, List.setIfInBounds_toArray, List.set_cons_zero, List.set_cons_succ, Nat.reduceAdd])
        | (refine wpH_val (v := ?_) (by rfl) (by rfl) ?_ ?_; rotate_left; · (intro w' hS hF; go_simp; first | done | with_reducible rfl)
           try simp only [Act.put, List.setIfInBounds_toArray, List.set_cons_zero, List.set_cons_succ, Nat.reduceAdd])
      first
        | (refine wpH_skip (by rfl) (by rfl) ?_; try simp only [Act.put, List.setIfInBounds_toArray, List.set_cons_zero, List.set_cons_succ, Nat.reduceAdd])
        | (refine wpH_val (v := ?_) (by rfl) (by rfl) ?_ ?_; rotate_left; · (intro w' hS hF; go_simp; first | done | with_reducible rfl)
           try simp only [Act.put, List.setIfInBounds_toArray, List.set_cons_zero, List.set_cons_succ, Nat.reduceAdd])
      first
        | (refine wpH_skip (by rfl) (by rfl) ?_; try simp only [Act.put, List.setIfInBounds_toArray, List.set_cons_zero, List.set_cons_succ, Nat.reduceAdd])
        | (refine wpH_val (v := ?_) (by rfl) (by rfl) ?_ ?_; rotate_left; · (intro w' hS hF; go_simp; first | done | with_reducible rfl)
           try simp only [Act.put, List.setIfInBounds_toArray, List.set_cons_zero, List.set_cons_succ, Nat.reduceAdd])
      first
        | (refine wpH_skip (by rfl) (by rfl) ?_; try simp only [Act.put, List.setIfInBounds_toArray, List.set_cons_zero, List.set_cons_succ, Nat.reduceAdd])
        | (refine wpH_val (v := ?_) (by rfl) (by rfl) ?_ ?_; rotate_left; · (intro w' hS hF; go_simp; first | done | with_reducible rfl)
           try simp only [Act.put, List.setIfInBounds_toArray, List.set_cons_zero, List.set_cons_succ, Nat.reduceAdd])
      first
        | (refine wpH_skip (by rfl) (by rfl) ?_; try simp only [Act.put, List.setIfInBounds_toArray, List.set_cons_zero, List.set_cons_succ, Nat.reduceAdd])
        | (refine wpH_val (v := ?_) (by rfl) (by rfl) ?_ ?_; rotate_left; · (intro w' hS hF; go_simp; first | done | with_reducible rfl)
           try simp only [Act.put, List.setIfInBounds_toArray, List.set_cons_zero, List.set_cons_succ, Nat.reduceAdd])
      first
        | (refine wpH_skip (by rfl) (by rfl) ?_; try simp only [Act.put, List.setIfInBounds_toArray, List.set_cons_zero, List.set_cons_succ, Nat.reduceAdd])
        | (refine wpH_val (v := ?_) (by rfl) (by rfl) ?_ ?_; rotate_left; · (intro w' hS hF; go_simp; first | done | with_reducible rfl)
           try simp only [Act.put, List.setIfInBounds_toArray, List.set_cons_zero, List.set_cons_succ, Nat.reduceAdd])
      refine wpH_grow (by rfl) rfl (by rfl) (fun w' hS hF K hK => ?_) (fun g9 => ?_)
      · go_simp
        go_wp2_with (with_reducible refine ((NW.out w' hS).mono ?_))
        rintro e w2 ⟨q, Φ2, rfl, hq, B2, x2⟩
        exact hK (none, q) w2 x2.none_ ⟨Φ2, Nat.le_trans hS.size hq, B2, (Ext.of_below HTH.out.n hS).trans x2⟩
      obtain ⟨Ag9, cg9⟩ := g9
      try dsimp only [gVal, gEmpty, gRow, gLit, gPtr, gNew, gRNew]
      try simp only [Act.put, List.setIfInBounds_toArray, List.set_cons_zero, List.set_cons_succ, Nat.reduceAdd]
      first
        | (refine wpH_skip (by rfl) (by rfl) ?_; try simp only [Act.put, List.setIfInBounds_toArray, List.set_cons_zero, List.set_cons_succ, Nat.reduceAdd])
        | (refine wpH_val (v := ?_) (by rfl) (by rfl) ?_ ?_; rotate_left; · (intro w' hS hF; go_simp; first | done | with_reducible rfl)
           try simp only [Act.put, List.setIfInBounds_toArray, List.set_cons_zero, List.set_cons_succ, Nat.reduceAdd])
      first
        | (refine wpH_skip (by rfl) (by rfl) ?_; try simp only [Act.put, List.setIfInBounds_toArray, List.set_cons_zero, List.set_cons_succ, Nat.reduceAdd])
        | (refine wpH_val (v := ?_) (by rfl) (by rfl) ?_ ?_; rotate_left; · (intro w' hS hF; go_simp; first | done | with_reducible rfl)
           try simp only [Act.put, List.setIfInBounds_toArray, List.set_cons_zero, List.set_cons_succ, Nat.reduceAdd])
      first
        | (refine wpH_skip (by rfl) (by rfl) ?_; try simp only [Act.put, List.setIfInBounds_toArray, List.set_cons_zero, List.set_cons_succ, Nat.reduceAdd])
        | (refine wpH_val (v := ?_) (by rfl) (by rfl) ?_ ?_; rotate_left; · (intro w' hS hF; go_simp; first | done | with_reducible rfl)
           try simp only [Act.put, List.setIfInBounds_toArray, List.set_cons_zero, List.set_cons_succ, Nat.reduceAdd])
      first
        | (refine wpH_skip (by rfl) (by rfl) ?_; try simp only [Act.put, List.setIfInBounds_toArray, List.set_cons_zero, List.set_cons_succ, Nat.reduceAdd])
        | (refine wpH_val (v := ?_) (by rfl) (by rfl) ?_ ?_; rotate_left; · (intro w' hS hF; go_simp; first | done | with_reducible rfl)
           try simp only [Act.put, List.setIfInBounds_toArray, List.set_cons_zero, List.set_cons_succ, Nat.reduceAdd])
      first
        | (refine wpH_skip (by rfl) (by rfl) ?_; try simp only [Act.put, List.setIfInBounds_toArray, List.set_cons_zero, List.set_cons_succ, Nat.reduceAdd])
        | (refine wpH_val (v := ?_) (by rfl) (by rfl) ?_ ?_; rotate_left; · (intro w' hS hF; go_simp; first | done | with_reducible rfl)
           try simp only [Act.put, List.setIfInBounds_toArray, List.set_cons_zero, List.set_cons_succ, Nat.reduceAdd])
      refine wpH_done (fun w8 hS hF => ?_)
      have f9 := hF _ _ (.head _)
      try dsimp only [gVal, gEmpty, gRow, gLit, gPtr, gNew, gRNew] at f9
      clear hF
      simp only [List.filterMap_cons, List.filterMap_nil, List.getElem?_toArray, List.getElem?_cons_succ, List.getElem?_cons_zero]
      clear RC0 NW
      refine wpList_nil ?_
      obtain ⟨Φ2, hq, Bq, x2⟩ := f9
      generalize cg9 = q at *
      have T2 := Lib.hid (HTH.out.ext x2)
      have HBQ := Lib.hid Bq
      have hx28 : Hid (∀ g, g < W.heap.size → Φ2 g = Φ g) := Lib.hid fun g hg => (x2.1 g (by omega)).trans (hΦ1.out g hg)
      have hqL : Hid (some q ∉ L) := Lib.hid fun hm => by have := (HTH.out.p q hm).lt; omega
      have hz8 := hS.size
      have NW2 : Hid (∀ w', Below w8.heap.size w8 w' → Calls Try.prog 26 #[.slice Ak m ck] w' (RNewP Φ2 B w' ((fl k).take 4))) := Lib.hid fun w' hb =>
        rnew_yes Φ2 B Ak m ck _ w' (Nat.le_trans T2.out.b hb.size) (T2.out.n.below hb) hfl.out (hfr.out w' (hS.trans (hb.mono hz8))) (by omega) hfw.out
      have RC8 := fun w' (hb : Below w8.heap.size w8 w') => HC.out k hlt w' (T2.out.bel.trans (hb.mono T2.out.bel.size))
      rw [hnk', hck', hAk'] at RC8
      clear Bq x2 hq
      go_wp2_with fail
      refine wp_region_any (by kernel_rfl) ?_
      refine wpAny_g (fun w' => Below w8.heap.size w8 w') Bel (mkG [(9, gRNew B Φ2 w8 (b0 ((fl k).take 4)))]) [] [] (by kernel_rfl) (by kernel_rfl) (by kernel_rfl) (stays_mk _ _) (Below.refl _ _).drew ?_
      first
        | (refine wpH_skip (by rfl) (by rfl) ?_; try simp only [Act.put, List.setIfInBounds_toArray, List.set_cons_zero, List.set_cons_succ, Nat.reduceAdd])
        | (refine wpH_val (v := ?_) (by rfl) (by rfl) ?_ ?_; rotate_left; · (intro w' hS hF; go_simp; first | done | with_reducible rfl)
           try simp only [Act.put, List.setIfInBounds_toArray, List.set_cons_zero, List.set_cons_succ, Nat.reduceAdd])
      first
        | (refine wpH_skip (by rfl) (by rfl) ?_; try simp only [Act.put, List.setIfInBounds_toArray, List.set_cons_zero, List.set_cons_succ, Nat.reduceAdd])
        | (refine wpH_val (v := ?_) (by rfl) (by rfl) ?_ ?_; rotate_left; · (intro w' hS hF; go_simp; first | done | with_reducible rfl)
           try simp only [Act.put, List.setIfInBounds_toArray, List.set_cons_zero, List.set_cons_succ, Nat.reduceAdd])
      first
        | (refine wpH_skip (by rfl) (by rfl) ?_; try simp only [Act.put, List.setIfInBounds_toArray, List.set_cons_zero, List.set_cons_succ, Nat.reduceAdd])
        | (refine wpH_val (v := ?_) (by rfl) (by rfl) ?_ ?_; rotate_left; · (intro w' hS hF; go_simp; first | done | with_reducible rfl)
           try simp only [Act.put, List.setIfInBounds_toArray, List.set_cons_zero, List.set_cons_succ, Nat.reduceAdd])
      first
        | (refine wpH_skip (by rfl) (by rfl) ?_; try simp only [Act.put, List.setIfInBounds_toArray, List.set_cons_zero, List.set_cons_succ, Nat.reduceAdd])
        | (refine wpH_val (v := ?_) (by rfl) (by rfl) ?_ ?_; rotate_left; · (intro w' hS hF; go_simp; first | done | with_reducible rfl)
           try simp only [Act.put, List.setIfInBounds_toArray, List.set_cons_zero, List.set_cons_succ, Nat.reduceAdd])
      first
        | (refine wpH_skip (by rfl) (by rfl) ?_; try simp only [Act.put, List.setIfInBounds_toArray, List.set_cons_zero, List.set_cons_succ, Nat.reduceAdd])
        | (refine wpH_val (v := ?_) (by rfl) (by rfl) ?_ ?_; rotate_left; · (intro w' hS hF; go_simp; first | done | with_reducible rfl)
           try simp only [Act.put, List.setIfInBounds_toArray, List.set_cons_zero, List.set_cons_succ, Nat.reduceAdd])
      first
        | (refine wpH_skip (by rfl) (by rfl) ?_; try simp only [Act.put, List.setIfInBounds_toArray, List.set_cons_zero, List.set_cons_succ, Nat.reduceAdd])
        | (refine wpH_val (v := ?_) (by rfl) (by rfl) ?_ ?_; rotate_left; · (intro w' hS hF; go_simp; first | done | with_reducible rfl)
           try simp only [Act.put, List.setIfInBounds_toArray, List.set_cons_zero, List.set_cons_succ, Nat.reduceAdd])
      first
        | (refine wpH_skip (by rfl) (by rfl) ?_; try simp only [Act.put, List.setIfInBounds_toArray, List.set_cons_zero, List.set_cons_succ, Nat.reduceAdd])
        | (refine wpH_val (v := ?_) (by rfl) (by rfl) ?_ ?_; rotate_left; · (intro w' hS hF; go_simp; first | done | with_reducible rfl)
           try simp only [Act.put, List.setIfInBounds_toArray, List.set_cons_zero, List.set_cons_succ, Nat.reduceAdd])
      first
        | (refine wpH_skip (by rfl) (by rfl) ?_; try simp only [Act.put, List.setIfInBounds_toArray, List.set_cons_zero, List.set_cons_succ, Nat.reduceAdd])
        | (refine wpH_val (v := ?_) (by rfl) (by rfl) ?_ ?_; rotate_left; · (intro w' hS hF; go_simp; first | done | with_reducible rfl)
           try simp only [Act.put, List.setIfInBounds_toArray, List.set_cons_zero, List.set_cons_succ, Nat.reduceAdd])
      first
        | (refine wpH_skip (by rfl) (by rfl) ?_; try simp only [Act.put, List.setIfInBounds_toArray, List.set_cons_zero, List.set_cons_succ, Nat.reduceAdd])
        | (refine wpH_val (v := ?_) (by rfl) (by rfl) ?_ ?_; rotate_left; · (intro w' hS hF; go_simp; first | done | with_reducible rfl)
           try simp only [Act.put, List.setIfInBounds_toArray, List.set_cons_zero, List.set_cons_succ, Nat.reduceAdd])
      refine wpH_grow (by rfl) rfl (by rfl) (fun w' hS hF K hK => ?_) (fun g9 => ?_)
      · go_simp
        go_wp2_with (with_reducible refine ((NW2.out w' hS).mono ?_))
        rintro e w2 ⟨r, Φ3, rfl, hr, B3, x3⟩
        exact hK (none, r) w2 x3.none_ ⟨Φ3, Nat.le_trans hS.size hr, B3, (Ext.of_below T2.out.n hS).trans x3⟩
      obtain ⟨Ag9, cg9⟩ := g9
      try dsimp only [gVal, gEmpty, gRow, gLit, gPtr, gNew, gRNew]
      try simp only [Act.put, List.setIfInBounds_toArray, List.set_cons_zero, List.set_cons_succ, Nat.reduceAdd]
      first
        | (refine wpH_skip (by rfl) (by rfl) ?_; try simp only [Act.put, List.setIfInBounds_toArray, List.set_cons_zero, List.set_cons_succ, Nat.reduceAdd])
        | (refine wpH_val (v := ?_) (by rfl) (by rfl) ?_ ?_; rotate_left; · (intro w' hS hF; go_simp; first | done | with_reducible rfl)
           try simp only [Act.put, List.setIfInBounds_toArray, List.set_cons_zero, List.set_cons_succ, Nat.reduceAdd])
      first
        | (refine wpH_skip (by rfl) (by rfl) ?_; try simp only [Act.put, List.setIfInBounds_toArray, List.set_cons_zero, List.set_cons_succ, Nat.reduceAdd])
        | (refine wpH_val (v := ?_) (by rfl) (by rfl) ?_ ?_; rotate_left; · (intro w' hS hF; go_simp; first | done | with_reducible rfl)
           try simp only [Act.put, List.setIfInBounds_toArray, List.set_cons_zero, List.set_cons_succ, Nat.reduceAdd])
      first
        | (refine wpH_skip (by rfl) (by rfl) ?_; try simp only [Act.put, List.setIfInBounds_toArray, List.set_cons_zero, List.set_cons_succ, Nat.reduceAdd])
        | (refine wpH_val (v := ?_) (by rfl) (by rfl) ?_ ?_; rotate_left; · (intro w' hS hF; go_simp; first | done | with_reducible rfl)
           try simp only [Act.put, List.setIfInBounds_toArray, List.set_cons_zero, List.set_cons_succ, Nat.reduceAdd])
      first
        | (refine wpH_skip (by rfl) (by rfl) ?_; try simp only [Act.put, List.setIfInBounds_toArray, List.set_cons_zero, List.set_cons_succ, Nat.reduceAdd])
        | (refine wpH_val (v := ?_) (by rfl) (by rfl) ?_ ?_; rotate_left; · (intro w' hS hF; go_simp; first | done | with_reducible rfl)
           try simp only [Act.put, List.setIfInBounds_toArray, List.set_cons_zero, List.set_cons_succ, Nat.reduceAdd])
      first
        | (refine wpH_skip (by rfl) (by rfl) ?_; try simp only [Act.put, List.setIfInBounds_toArray, List.set_cons_zero, List.set_cons_succ, Nat.reduceAdd])
        | (refine wpH_val (v := ?_) (by rfl) (by rfl) ?_ ?_; rotate_left; · (intro w' hS hF; go_simp; first | done | with_reducible rfl)
           try simp only [Act.put, List.setIfInBounds_toArray, List.set_cons_zero, List.set_cons_succ, Nat.reduceAdd])
      refine wpH_done (fun w9 hS hF => ?_)
      have f9 := hF _ _ (.head _)
      try dsimp only [gVal, gEmpty, gRow, gLit, gPtr, gNew, gRNew] at f9
      clear hF
      simp only [List.filterMap_cons, List.filterMap_nil, List.getElem?_toArray, List.getElem?_cons_succ, List.getElem?_cons_zero]
      clear RC8 NW2
      refine wpList_nil ?_
      obtain ⟨Φ3, hr, Br, x3⟩ := f9
      generalize cg9 = r at *
      have hrL : Hid (some r ∉ L') := Lib.hid fun hm => by have := (T2.out.r r hm).lt; omega
      have T3 := Lib.hid (T2.out.ext x3)
      have HBR : Hid (RB Φ3 B w9 r (b0 ((fl k).take 4))) := Lib.hid Br
      have HBQ3 := Lib.hid (HBQ.out.ext x3 (fun _ _ h => h) (fun h => h))
      have hz9 := T3.out.bel.size
      have hx39 : Hid (∀ g, g < W.heap.size → Φ3 g = Φ g) := Lib.hid fun g hg => (x3.1 g (by have := T2.out.bel.size; omega)).trans (hx28.out g hg)
      clear Br x3 hr
      have hT3A := T3.out.rp.1
      have hT3B := T3.out.rr.1
      have hcA := hT3A.2.2.1
      have hcB := hT3B.2.2.1
      unfold maxLen at hcA hcB
      have hkc := hT3A.2.1
      have HA := Lib.hid hT3A
      have HB := Lib.hid hT3B
      clear hT3A hT3B
      go_upto_region 9 with (at_builtin; refine wpList_app _ rfl (.tmp 40) (.tmp 42) 58 rfl W.heap.size 28 (.pointer none) 1 8 Try.underlying58 info28 rfl (by decide) A k c _ rfl (HA.out.alloc (.cells #[ptr (some q)] 28)) _ _ 1 1 [ptr (some q)] rfl rfl (Rd.one w9 (ptr (some q)) 28) (one_one rfl) (by unfold maxLen; omega) (by omega) (by simp; omega) ?_; intro A2 c2 w10 ho10 hg10 hd10)
      rw [show ptrs L ++ [ptr (some q)] = ptrs L ++ [ptr (some q)] from rfl] at ho10
      have hne10 : blkOf A' = none ∨ blkOf A' ≠ blkOf A := own_own_ne (HB.out.below (bl1 w9 (.cells #[ptr (some q)] 28))) (HA.out.below (bl1 w9 (.cells #[ptr (some q)] 28))) (by decide)
      have HB10 := Lib.hid ((HB.out.below (bl1 w9 (.cells #[ptr (some q)] 28))).grown hg10 hne10)
      have hz10 := hg10.size
      simp only [World.size_alloc] at hz10
      have hzW9 := T3.out.bel.size
      go_wp2_with (at_builtin; refine wpList_app _ rfl (.tmp 44) (.tmp 46) 59 rfl W.heap.size 47 (.pointer none) 1 8 Try.underlying59 info47 rfl (by decide) A' k c' _ rfl (HB10.out.alloc (.cells #[ptr (some r)] 47)) _ _ 1 1 [ptr (some r)] rfl rfl (Rd.one w10 (ptr (some r)) 47) (one_one rfl) (by unfold maxLen; omega) (by omega) (by simp; omega) ?_; intro A3 c3 w11 ho11 hg11 hd11)
      obtain ⟨Φ4, T4, hΦ4⟩ := nd_next T3.out HBQ3.out HBR.out hqL.out hrL.out ho10 hg10 hd10 ho11 hg11 hd11
      have T4 := Lib.hid T4
      go_roundw
      case rel => exact ⟨k + 1, Φ4, A2, c2, _, A3, c3, _, _, _, by omega, rfl, rfl, rfl, T4.out, Lib.hid fun g hg => (hΦ4 g hg).trans (hx39.out g hg)⟩
      case measure => simp [intOf]; omega
    · obtain rfl : k = 3 := by omega
      have HE := Lib.hid (HQ.out A c L A' c' L' s t Φ1 wr HT hΦ1.out)
      clear HT
      go_wp2_with fail
      go_ret2
      exact HE.out
end Go.Proofs.Ytbmkfjgodgmjnaa
