/- LockPlays: the walk. -/
import Derived.Test.YtgkmeekefinmkaaR5
import Derived.Test.YtgkmeekefinmkaaLM
namespace Go.Proofs.Ytgkmeekefinmkaa
open Go.RowKit
set_option linter.unusedVariables false
set_option linter.unusedSimpArgs false
/-- Both locks, of one mind or one step apart. -/
structure PL (B l q : Nat) (a a' : LX) (w : World) : Prop where
  p : LAt w B (fun _ => True) l a
  r : RAt w B q a'
  z : B ≤ w.heap.size
theorem PL.below {B l q : Nat} {a a' : LX} {w w' : World} (h : PL B l q a a' w) (hb : Below w.heap.size w w') : PL B l q a a' w' := ⟨h.p.below hb, h.r.below hb, Nat.le_trans h.z hb.size⟩
theorem PL.chT {B l q : Nat} {a a' : LX} {w w' : World} (h : PL B l q a a' w) (hb : ChT B [] w w') : PL B l q a a' w' := ⟨h.p.chT hb (by simp) (by simp) (by simp), h.r.chT hb (by simp) (by simp), Nat.le_trans h.z hb.size⟩
def UP (B l q : Nat) (a a' : LX) (v : Value) (w : World) (e : Ending) (w' : World) : Prop := e = .returned v ∧ PL B l q a a' w' ∧ ChT B [41, 49, 51] w w'
section
variable {B l q : Nat} {a a' : LX} {w : World}
theorem PL.unlock (h : PL B l q a a' w) (left : Int) (A : Option Addr) (n c : Nat) (xs : List Int) (h0 : -9223372036854775808 ≤ left) (h1 : left ≤ 9223372036854775807) (hn : n ≤ maxLen) (hx : xs.length = n) (hr : Rd w w.heap.size A (u8s xs)) (hu : by8 xs) {a2 : LX} {e2 : Int} (hE : unlockX a left xs = (a2, e2)) :
    Calls Try.prog 12 #[.pointer (some ⟨l, 0, none⟩), .int .i64 left, .slice A n c] w (UP B l q a2 a' (.int .i64 e2) w) := by
  have := unlock_any h.p h.z left A n c xs h0 h1 hn hx hr hu
  rw [hE] at this
  refine this.mono ?_
  rintro e w' ⟨rfl, k1, k2⟩
  exact ⟨rfl, ⟨k1, h.r.chT k2 (by decide) (by decide), Nat.le_trans h.z k2.size⟩, k2.mono (Nat.le_refl _) (by simp)⟩
theorem PL.runlock (h : PL B l q a' a w) (left : Int) (A : Option Addr) (n c : Nat) (xs : List Int) (h0 : -9223372036854775808 ≤ left) (h1 : left ≤ 9223372036854775807) (hn : n ≤ maxLen) (hx : xs.length = n) (hr : Rd w w.heap.size A (u8s xs)) (hu : by8 xs) {a2 : LX} {e2 : Int} (hE : unlockX a left xs = (a2, e2)) :
    Calls Try.prog 17 #[.pointer (some ⟨q, 0, none⟩), .int .i64 left, .slice A n c] w (UP B l q a' a2 (.int .i64 e2) w) := by
  have := runlock_any h.r h.z left A n c xs h0 h1 hn hx hr hu
  rw [hE] at this
  refine this.mono ?_
  rintro e w' ⟨rfl, k1, k2⟩
  exact ⟨rfl, ⟨h.p.chT k2 (by decide) (by decide) (by decide), k1, Nat.le_trans h.z k2.size⟩, k2.mono (Nat.le_refl _) (by simp)⟩
def SP (B l q : Nat) (a a' : LX) (n p e2 : Int) (xs : List Int) (w : World) (e : Ending) (w' : World) : Prop := ∃ A m c, e = .returned (.tuple #[.int .i64 n, .slice A m c, .int .i64 e2]) ∧ xs.length = m ∧ Own w' w.heap.size 5 1 A m c (u8s xs) ∧ PL B l q a a' w' ∧ ChT B [41, 49, 51] w w'
theorem PL.seed (h : PL B l q a a' w) (m res : Int) (hm : 0 ≤ m) (h0 : 0 ≤ res) (hr1 : res < 256) (A : Option Addr) (n c : Nat) (xs : List Int) (hx : xs.length = n) (hb : Rd w B A (u8s xs)) (hu : by8 xs) {a2 : LX} {n2 e2 : Int} {ys : List Int} (hE : seedX a m res xs = (a2, n2, ys, e2)) :
    Calls Try.prog 10 #[.pointer (some ⟨l, 0, none⟩), .int .u8 m, .int .u8 res, .slice A n c] w (SP B l q a2 a' n2 0 e2 ys w) := by
  have := seed_any h.p h.z m res hm h0 hr1 A n c xs hx (By.of_rd hb h.z) hu
  rw [hE] at this
  refine this.mono ?_
  rintro e w' ⟨A5, m5, c5, rfl, k0, k1, k2, k3⟩
  exact ⟨A5, m5, c5, rfl, k0, k1, ⟨k2.imp (fun _ _ => trivial), h.r.chT k3 (by decide) (by decide), Nat.le_trans h.z k3.size⟩, k3.mono (Nat.le_refl _) (by simp)⟩
theorem PL.rseed (h : PL B l q a' a w) (m res : Int) (hm : 0 ≤ m) (h0 : 0 ≤ res) (hr1 : res < 256) (A : Option Addr) (n c : Nat) (xs : List Int) (hx : xs.length = n) (hb : Rd w B A (u8s xs)) (hu : by8 xs) {a2 : LX} {n2 e2 : Int} {ys : List Int} (hE : seedX a m res xs = (a2, n2, ys, e2)) :
    Calls Try.prog 16 #[.pointer (some ⟨q, 0, none⟩), .int .u8 m, .int .u8 res, .slice A n c] w (SP B l q a' a2 n2 0 e2 ys w) := by
  have := rseed_any h.r h.z m res hm h0 hr1 A n c xs hx (By.of_rd hb h.z) hu
  rw [hE] at this
  refine this.mono ?_
  rintro e w' ⟨A5, m5, c5, rfl, k0, k1, k2, k3⟩
  exact ⟨A5, m5, c5, rfl, k0, k1, ⟨h.p.chT k3 (by decide) (by decide) (by decide), k2, Nat.le_trans h.z k3.size⟩, k3.mono (Nat.le_refl _) (by simp)⟩
end
/-- What the reference's lock holds, whether a seed is out or not. -/
theorem RAt.view {w : World} {B q : Nat} {a : LX} (h : RAt w B q a) : ∃ (A1 : Option Addr) (c1 : Nat) (A3 : Option Addr) (c3 : Nat) (s : List Int) (of_ : Int) (came : List Int) (t : Int), Blk w q 41 #[.int .u8 a.all, .int .u8 a.shut, .slice A1 s.length c1, .int .u8 of_, .int .i64 t, .slice A3 came.length c3] ∧ Own w 0 5 1 A1 s.length c1 (u8s s) ∧ by8 s ∧ s.length ≤ 20 ∧ came.length ≤ s.length ∧ 0 ≤ of_ ∧ of_ < 256 := by
  obtain ⟨h1, h2, h3⟩ := h
  cases ho : a.out with
  | none =>
    rw [ho] at h3
    exact ⟨none, 0, none, 0, [], 0, [], 0, h3, Own.nil _ _ _ _, fun x hx => (by cases hx), by simp, by simp, by decide, by decide⟩
  | some d =>
    rw [ho] at h3
    obtain ⟨A1, c1, A3, c3, g1, ⟨g2, g3, g4⟩, g5⟩ := h3
    have hd := h2.out d ho
    have hr : 0 ≤ d.of ∧ d.of < 256 := by rcases (isRes_iff d.of).1 hd.o with e | e | e <;> rw [e] <;> decide
    exact ⟨A1, c1, A3, c3, d.s, d.of, d.came, d.told, g1, g4, hd.b, hd.s2, Nat.le_of_lt hd.c, hr.1, hr.2⟩
theorem part_rd {W : World} {base g o n c M : Nat} {ks : List Int} (h : Own W base 5 1 (some ⟨g, o, none⟩) n c (u8s ks)) (hM : M ≤ n) (hc : M < c) : Rd W W.heap.size (some ⟨g, o + M, none⟩) (u8s ((ks.drop M).take 6)) := by
  have := (h.cut (k := M) hM (by decide)).rd.take 6
  rw [if_neg (by omega), Nat.mul_one, ← List.map_drop, ← List.map_take, Option.map_some, add_none] at this
  exact this
theorem rd_len0 {W : World} {B : Nat} {A : Option Addr} {xs : List Int} (h : xs.length = 0) : Rd W B A (u8s xs) := fun hn => absurd (by rw [List.length_eq_zero_iff.1 h]; rfl) hn
/-- The act's block, and what was written since. -/
def SS (B g : Nat) (cs : Array Value) (W w' : World) : Prop := Blk w' g 39 cs ∧ ChT B [41, 49, 51] W w'
theorem SS.step {B g : Nat} {W w w' : World} {cs : Array Value} (h : SS B g cs W w) (hc : ChT B [41, 49, 51] w w') : SS B g cs W w' := ⟨h.1.chT hc (by decide), h.2.trans hc⟩
theorem SS.drew {B g : Nat} {W w : World} {cs : Array Value} (h : SS B g cs W w) : SS B g cs W w.drew := ⟨h.1.drew, h.2.grow (Below.refl _ _).drew⟩
set_option maxRecDepth 100000 in
set_option maxHeartbeats 40000000 in
theorem plays_any (res : Int) (A : Option Addr) (n c : Nat) (l : List Ac) (w : World) (hr0 : 0 ≤ res) (hr1 : res < 256) (hx : l.length = n) (hl : n ≤ maxLen) (hr : Rd w w.heap.size A (cellsA l)) (hin : ∀ a ∈ l, AcIn w w.heap.size a) :
    Calls Try.prog 5 #[.int .u8 res, .slice A n c] w fun e w' => e = .returned (.bool true) ∧ Below w.heap.size w w' := by
  have C := Lib.hid (fun W hW => lnew_any res W w.heap.size (fun _ => True) hW hr0 hr1)
  have C2 := Lib.hid (fun W hW => rnew_any res W w.heap.size hW hr0 hr1)
  go_enter Try.func5, Try.ntmps5
  go_wp2_with fail
  refine (shown_any _).mono ?_
  rintro e w1 ⟨rfl, b1⟩
  have z1 := b1.size
  go_wp2_with fail
  refine (C.out _ z1).mono ?_
  rintro e w2 ⟨rfl, L2, b2⟩
  have b2' := b1.trans (b2.mono z1)
  have z2 := b2.size
  go_wp2_with fail
  refine (C2.out _ (by omega)).mono ?_
  rintro e w3 ⟨rfl, K3, b3⟩
  have b3' := b2'.trans (b3.mono (by omega))
  have z3 := b3.size
  have F := Lib.hid (few_any A n c l w3 w.heap.size (by omega) hx hl ((hr.below b3').more (by omega)) (fun a ha => (hin a ha).below b3'))
  have L3 := L2.below b3
  obtain ⟨p, hp⟩ : ∃ p, w1.heap.size = p := ⟨_, rfl⟩
  obtain ⟨q, hq⟩ : ∃ q, w2.heap.size = q := ⟨_, rfl⟩
  rw [hp] at L3
  rw [hq] at K3
  rw [hp, hq]
  clear hp hq L2 C C2 hr hin hx
  go_wp2_with fail
  refine F.out.mono ?_
  rintro e w4 ⟨AF, cF, outs, rfl, h60, hoF, hF, b4⟩
  have b4' := b3'.trans (b4.mono (by omega))
  have z4 := b4.size
  obtain ⟨N, hN⟩ : ∃ N, outs.length = N := ⟨_, rfl⟩
  rw [hN] at hoF h60
  have HP : PL w.heap.size p q ⟨m13 res, m13 res, none⟩ ⟨m13 res, m13 res, none⟩ w4 := ⟨L3.below b4, K3.below b4, by omega⟩
  have HN := Lib.hid hN
  have HF : Hid (∀ W, Below w.heap.size w4 W → ∀ o ∈ outs, AcIn W w.heap.size o ∧ o.n ≤ 30) := Lib.hid fun W hW o ho => ⟨((hF o ho).1).below hW, (hF o ho).2⟩
  clear F L3 K3 hF
  go_wp2_with fail
  clear hN
  go_loopw [30] (fun i wr => ∃ (k : Nat) (a : LX), k ≤ N ∧ i = .int .i64 k ∧ PL w.heap.size p q a a wr ∧ ChT w.heap.size [41, 49, 51] w4 wr) (fun i _ => N - (intOf i).toNat)
  case atStart => exact ⟨0, _, Nat.zero_le _, rfl, HP, ChT.refl _ _ _⟩
  case round =>
    obtain ⟨k, a, hk, rfl, hQ, hcr⟩ := hrel
    have hzr := hcr.size
    have hbr : Below w.heap.size w4 wr := hcr.below (by omega)
    clear HP b1 b2 b2' b3 b3' b4
    by_cases hlt : k < N
    · have hlt' : (k : Int) < N := by omega
      obtain ⟨o, ho⟩ : ∃ o, outs[k]? = some o := ⟨_, List.getElem?_eq_getElem (by rw [HN.out]; exact hlt)⟩
      obtain ⟨oin, on30⟩ := HF.out wr hbr o (List.mem_of_getElem? ho)
      have hoR := hoF.chT hcr (by decide)
      obtain ⟨b, ofs, rfl, -, hc⟩ := hoR.rd (by intro h; have h2 := flatC_len Ac.cs 5 outs (fun _ _ => rfl); rw [show flatC Ac.cs outs = [] from h, HN.out] at h2; simp at h2; omega)
      have hc' : ∀ j u, o.cs[j]? = some u → wr.cell? ⟨b, ofs + (k * 5 + j), none⟩ = some u := fun j u hu => hc _ _ (flatC_at Ac.cs 5 outs (fun _ _ => rfl) k o ho j u hu)
      have q0 := hc' 0 _ rfl
      have q1 := hc' 1 _ rfl
      have q2 := hc' 2 _ rfl
      have q3 := hc' 3 _ rfl
      have q4 := hc' 4 _ rfl
      rw [Nat.add_zero] at q0
      rw [← Nat.add_assoc] at q1 q2 q3 q4
      clear hc hc' ho hoR
      obtain ⟨ok, om, ores, oleft, oA, on, oc, ob⟩ := o
      dsimp only at q0 q1 q2 q3 q4 on30
      have k0 : 0 ≤ ok := oin.k0
      have k1 : ok < 256 := oin.k1
      go_upto_region 8 with fail
      refine wp_named fun W1 hW => ?_
      obtain ⟨B39, hbW⟩ := blk1 hW
      clear hW
      have hQ1 := hQ.below hbW
      have hc1 := Lib.hid (hcr.grow hbW)
      have hbW1 : Below w.heap.size w4 W1 := hbr.trans (hbW.mono hQ.z)
      have hzW := hbW.size
      have bc := B39.cell
      have oin1 := Lib.hid (oin.below (hbW.mono hQ.z))
      have H39 := Lib.hid B39
      have hQ1' := Lib.hid hQ1
      have hz1 := hQ1.z
      have FIN : Hid (∀ (W : World) (a2 : LX) (i : Value), PL w.heap.size p q a2 a2 W → ChT w.heap.size [41, 49, 51] W1 W → i = .int .i64 ((k + 1 : Nat) : Int) → ∃ (k' : Nat) (a : LX), k' ≤ N ∧ i = .int .i64 k' ∧ PL w.heap.size p q a a W ∧ ChT w.heap.size [41, 49, 51] w4 W) := Lib.hid (fun W a2 i x1 x2 x3 => ⟨k + 1, a2, by omega, x3, x1, hc1.out.trans x2⟩)
      have FB : Hid (∀ nq (W : World) (a2 : LX), PL w.heap.size p q a2 a2 W → Calls Try.prog 13 #[.pointer (some ⟨p, 0, none⟩)] (W.drewN nq) (fun e w' => e = .returned (.int .u8 a2.shut) ∧ (W.drewN nq) = w')) := Lib.hid fun nq W a2 h => locked_any (h.p.below (bel_drewN (Below.refl _ _) nq))
      clear hQ hQ1 q0 q1 q2 q3 q4 B39 oin hbr hcr hbW
      have hr5 : ok % 5 = 0 ∨ ok % 5 = 1 ∨ ok % 5 = 2 ∨ ok % 5 = 3 ∨ ok % 5 = 4 := by omega
      rcases hr5 with h5 | h5 | h5 | h5 | h5
      · obtain ⟨a2, n2, ys, e2, hE⟩ : ∃ a2 n2 ys e2, seedX a om ores ob = (a2, n2, ys, e2) := ⟨_, _, _, _, rfl⟩
        have X1 := oin1.out
        have hS : SS w.heap.size wr.heap.size #[.int .u8 ok, .int .u8 om, .int .u8 ores, .int .i64 oleft, .slice oA on oc] W1 W1 := ⟨H39.out, ChT.refl _ _ _⟩
        have P := Lib.hid (hQ1'.out.seed om ores X1.m0 X1.r0 X1.r1 oA on oc ob X1.bl X1.br X1.bb hE)
        have R := Lib.hid (fun (w' : World) (h : PL w.heap.size p q a2 a w') (hb : Below w.heap.size W1 w') => h.rseed om ores X1.m0 X1.r0 X1.r1 oA on oc ob X1.bl (X1.br.below hb) X1.bb hE)
        have hnn : (n2 != n2) = false := by simp
        have hee : (e2 != e2) = false := by simp
        have bf := H39.out.frozen
        clear hE X1
        go_wp2_with fail
        refine P.out.mono ?_
        rintro e w5 ⟨A5, m5, c5, rfl, hm5, ho5, hP5, hc5⟩
        have hS5 := hS.step hc5
        have bc5 := hS5.1.cell
        clear P bc
        go_wp2_with fail
        refine (R.out _ hP5 (hc5.below hz1)).mono ?_
        rintro e w6 ⟨A6, m6, c6, rfl, hm6, ho6, hP6, hc6⟩
        obtain rfl : m5 = m6 := by omega
        have HCC := Lib.hid (hS5.step hc6).2
        have cv5 := (ho5.chT hc6 (by decide)).conv (n := m5) (P := Try.prog) (src := 22) (dst := 9) Try.underlying22 Try.underlying5 Try.underlying9 hm5.symm w6 (Below.refl _ _)
        have cv6 := ho6.conv (n := m5) (P := Try.prog) (src := 22) (dst := 9) Try.underlying22 Try.underlying5 Try.underlying9 hm5.symm w6 (Below.refl _ _)
        obtain ⟨sy, hsy⟩ : ∃ sy, bstr ys = sy := ⟨_, rfl⟩
        rw [hsy] at cv5 cv6
        clear R hS hS5 hP5 hc5 hc6 bc5 ho5 ho6 hsy hm5 hm6
        have hcc : ChT w.heap.size [41, 49, 51] W1 w6 := HCC.out
        have L := Lib.hid fun nq => FB.out nq w6 _ hP6
        obtain ⟨v2, v3, v4, v5, hbk⟩ := hP6.r.six
        have c1 : w6.cell? ⟨q, 1, none⟩ = some (.int .u8 a2.shut) := (hbk.cell 1).trans rfl
        clear hbk
        go_wp2_with fail
        go_quiet ((go_at_call 13; exact Calls.quiet_of_same ((L.out _).mono (by rintro e w' ⟨rfl, rfl⟩; exact ⟨rfl, rfl⟩))))
        go_wp2_with fail
        go_roundw
        case rel => exact FIN.out _ _ _ (hP6.below (bel_drewN (Below.refl _ _) nq)) (hcc.drewN nq) (by go_num)
        case measure => simp [intOf]; omega
      · obtain ⟨a2, e2, hE⟩ : ∃ a2 e2, unlockX a oleft ob = (a2, e2) := ⟨_, _, rfl⟩
        have hS : SS w.heap.size wr.heap.size #[.int .u8 ok, .int .u8 om, .int .u8 ores, .int .i64 oleft, .slice oA on oc] W1 W1 := ⟨H39.out, ChT.refl _ _ _⟩
        have X1 := oin1.out
        have hnm : on ≤ maxLen := by unfold maxLen; omega
        have P := Lib.hid (fun (a1 : LX) (w' : World) (h : PL w.heap.size p q a a1 w') (hs : SS w.heap.size wr.heap.size #[.int .u8 ok, .int .u8 om, .int .u8 ores, .int .i64 oleft, .slice oA on oc] W1 w') => h.unlock oleft oA on oc ob X1.l0 X1.l1 hnm X1.bl ((X1.br.below (hs.2.below hz1)).more (Nat.le_trans hz1 hs.2.size)) X1.bb hE)
        have R := Lib.hid (fun (a1 : LX) (w' : World) (h : PL w.heap.size p q a1 a w') (hs : SS w.heap.size wr.heap.size #[.int .u8 ok, .int .u8 om, .int .u8 ores, .int .i64 oleft, .slice oA on oc] W1 w') => h.runlock oleft oA on oc ob X1.l0 X1.l1 hnm X1.bl ((X1.br.below (hs.2.below hz1)).more (Nat.le_trans hz1 hs.2.size)) X1.bb hE)
        have hee : (e2 != e2) = false := by simp
        have RL : ∀ w', SS w.heap.size wr.heap.size #[.int .u8 ok, .int .u8 om, .int .u8 ores, .int .i64 oleft, .slice oA on oc] W1 w' → ∀ i, w'.cell? ⟨wr.heap.size, i, none⟩ = #[Value.int .u8 ok, .int .u8 om, .int .u8 ores, .int .i64 oleft, .slice oA on oc][i]? := fun w' h => h.1.cell
        clear hE X1
        have hQ1 := hQ1'.out
        have bf := H39.out.frozen
        go_upto_region 19 with fail
        go_region_held (fun w' => SS w.heap.size wr.heap.size #[.int .u8 ok, .int .u8 om, .int .u8 ores, .int .i64 oleft, .slice oA on oc] W1 w') (first | exact hS | exact SS.drew (by assumption) | exact SS.step (SS.step hS.drew hc5) hc6 | exact SS.step hS.drew hc5)
          (first
            | (go_at_call 12; (with_reducible refine (P.out _ _ (by first | assumption | exact PL.below hQ1 (Below.refl _ _).drew) (by first | assumption | exact hS.drew)).mono ?_); rintro e w5 ⟨rfl, hP5, hc5⟩)
            | (go_at_call 17; (with_reducible refine (R.out _ _ (by first | assumption | exact PL.below hQ1 (Below.refl _ _).drew) (by first | assumption | exact SS.step hS.drew hc5)).mono ?_); rintro e w6 ⟨rfl, hP6, hc6⟩))
        have HCC := Lib.hid (SS.step (SS.step hS.drew hc5) hc6).2
        clear P R RL hS hP5 hc5 hc6 hQ1
        have hcc : ChT w.heap.size [41, 49, 51] W1 w6 := HCC.out
        have L := Lib.hid fun nq => FB.out nq w6 _ hP6
        obtain ⟨v2, v3, v4, v5, hbk⟩ := hP6.r.six
        have c1 : w6.cell? ⟨q, 1, none⟩ = some (.int .u8 a2.shut) := (hbk.cell 1).trans rfl
        clear hbk
        go_wp2_with fail
        go_quiet ((go_at_call 13; exact Calls.quiet_of_same ((L.out _).mono (by rintro e w' ⟨rfl, rfl⟩; exact ⟨rfl, rfl⟩))))
        go_wp2_with fail
        go_roundw
        case rel => exact FIN.out _ _ _ (hP6.below (bel_drewN (Below.refl _ _) nq)) (hcc.drewN nq) (by go_num)
        case measure => simp [intOf]; omega
      · obtain ⟨A1, c1, A3, c3, s, of_, came, t, hB41, hOs, hsb, hs20, hcs, ho0, ho1⟩ := hQ1'.out.r.view
        obtain ⟨n, hn⟩ : ∃ n, s.length = n := ⟨_, rfl⟩
        obtain ⟨M, hM⟩ : ∃ M, came.length = M := ⟨_, rfl⟩
        rw [hn] at hB41 hOs hs20 hcs
        rw [hM] at hB41 hcs
        have hqW := hB41.lt
        have e2 := (hB41.cell 2).trans rfl
        have K : Hid (∀ w', Below W1.heap.size W1 w' → Calls Try.prog 18 #[.slice A1 n c1, .int .u8 of_] w' (RetB w' (keyL s of_) n)) := Lib.hid fun w' hb => rkey_any A1 n c1 s of_ w' hn ((hOs.below hb).rd) (by omega) ho0 ho1
        have R2 : ∀ w', Below W1.heap.size W1 w' → w'.cell? ⟨q, 2, none⟩ = some (.slice A1 n c1) := fun w' hb => (hb.cell (p := ⟨q, 2, none⟩) hqW).trans ((hB41.cell 2).trans rfl)
        have R3 : ∀ w', Below W1.heap.size W1 w' → w'.cell? ⟨q, 3, none⟩ = some (.int .u8 of_) := fun w' hb => (hb.cell (p := ⟨q, 3, none⟩) hqW).trans ((hB41.cell 3).trans rfl)
        have H41 := Lib.hid hB41
        have hkb := Lib.hid (keyL_by s of_ hsb)
        have hkl : Hid ((keyL s of_).length = n) := Lib.hid (by rw [keyL_len]; exact hn)
        clear hn hM hB41 hOs e2
        go_upto_region 22 with fail
        go_region_held (fun w' => Below W1.heap.size W1 w') (first | exact Below.refl _ _ | exact (Below.refl _ _).drew | exact bel2 (by assumption) (by assumption) | exact bel2 (Below.refl _ _).drew (by assumption))
          (first | (go_at_call 18; (with_reducible refine (K.out _ (by first | assumption | exact Below.refl _ _ | exact (Below.refl _ _).drew)).mono ?_); rintro e w5 ⟨A5, c5, rfl, ho5, hb5⟩))
        have hb5' : Below W1.heap.size W1 w5 := bel2 (Below.refl _ _).drew hb5
        have B41 := H41.out.below hb5'
        have r5 : w5.cell? ⟨q, 5, none⟩ = some (.slice A3 M c3) := (B41.cell 5).trans rfl
        have hQ5 := Lib.hid (hQ1'.out.below hb5')
        have hC5 := Lib.hid (ChT.of_below hb5' w.heap.size [41, 49, 51])
        obtain ⟨ks, hks⟩ : ∃ ks, keyL s of_ = ks := ⟨_, rfl⟩
        rw [hks] at ho5 hkb hkl
        have hnc5 := ho5.2.1
        have hcm5 := ho5.2.2.1
        unfold maxLen at hcm5
        obtain ⟨D, hD⟩ : ∃ D, n - M = D := ⟨_, rfl⟩
        have hways : (A5 = none ∧ n = 0 ∧ M = 0 ∧ c5 = 0 ∧ D = 0) ∨ (∃ g o, A5 = some ⟨g, o, none⟩ ∧ c5 = M ∧ n = M ∧ D = 0) ∨ (∃ g o, A5 = some ⟨g, o, none⟩ ∧ M < c5 ∧ D ≤ 6) ∨ (∃ g o, A5 = some ⟨g, o, none⟩ ∧ M < c5 ∧ 6 < D) := by
          cases hA : A5 with
          | none =>
            have := ho5.2.2.2.1 hA
            exact .inl ⟨rfl, by omega, by omega, by omega, by omega⟩
          | some ad =>
            obtain ⟨g, off, cur, rfl, -⟩ := ho5.2.2.2.2 ad hA
            rcases Nat.lt_or_ge M c5 with hlt | hge
            · rcases Nat.lt_or_ge 6 D with h6 | h6
              · exact .inr (.inr (.inr ⟨g, off, rfl, hlt, h6⟩))
              · exact .inr (.inr (.inl ⟨g, off, rfl, hlt, h6⟩))
            · exact .inr (.inl ⟨g, off, rfl, by omega, by omega, by omega⟩)
        have hcut := Lib.hid (ho5.cut (k := M) hcs (by decide))
        obtain ⟨xs, hxs⟩ : ∃ xs, (ks.drop M).take 6 = xs := ⟨_, rfl⟩
        have hxl : Hid (xs.length = min D 6) := Lib.hid (by rw [← hxs, List.length_take, List.length_drop, hkl.out]; omega)
        have hxb : Hid (by8 xs) := Lib.hid (fun x hx => hkb.out x (List.mem_of_mem_drop (List.mem_of_mem_take (by rw [hxs]; exact hx))))
        have HXS := Lib.hid hxs
        have HD := Lib.hid hD
        obtain ⟨a2, e2, hE⟩ : ∃ a2 e2, unlockX a (D : Int) xs = (a2, e2) := ⟨_, _, rfl⟩
        have hee : (e2 != e2) = false := by simp
        have P := Lib.hid (fun (w' : World) (h : PL w.heap.size p q a a w') (A : Option Addr) (m c : Nat) (hm : m = min D 6) (hr : Rd w' w'.heap.size A (u8s xs)) => h.unlock (D : Int) A m c xs (by omega) (by omega) (by unfold maxLen; omega) (hxl.out.trans hm.symm) hr hxb.out hE)
        have R := Lib.hid (fun (w' : World) (h : PL w.heap.size p q a2 a w') (A : Option Addr) (m c : Nat) (hm : m = min D 6) (hr : Rd w' w'.heap.size A (u8s xs)) => h.runlock (D : Int) A m c xs (by omega) (by omega) (by unfold maxLen; omega) (hxl.out.trans hm.symm) hr hxb.out hE)
        have hsub : (n : Int) - (M : Int) = (D : Int) := by omega
        have hO5 := Lib.hid ho5
        have hnM : Hid (n = M + D) := Lib.hid (by omega)
        clear K R2 R3 B41 ho5 hb5 hks hkl hxs hE
        rcases hways with ⟨rfl, rfl, rfl, rfl, hD0⟩ | ⟨g, o, rfl, rfl, hn0, hD0⟩ | ⟨g, o, rfl, hlt5, h6⟩ | ⟨g, o, rfl, hlt5, h6⟩
        case' inl =>
          obtain rfl : D = 0 := hD0
          have HR := Lib.hid (fun (W : World) (h : Own W W1.drew.heap.size 5 1 none 0 0 (u8s ks)) => rd_len0 (W := W) (B := W.heap.size) (A := none) (xs := xs) (by rw [hxl.out]; rfl))
          have P1 := Lib.hid (P.out w5 hQ5.out none 0 0 (by omega) (HR.out w5 hO5.out))
          have R1 := Lib.hid (fun (W : World) h h2 => R.out W h none 0 0 (by omega) (HR.out W h2))
        case' inr.inl =>
          obtain rfl : D = 0 := hD0
          subst hn0
          have hM1 : (n : Int) ≤ (n : Int) := by omega
          have HR := Lib.hid (fun (W : World) (h : Own W W1.drew.heap.size 5 1 (some ⟨g, o, none⟩) n n (u8s ks)) => rd_len0 (W := W) (B := W.heap.size) (A := some ⟨g, o, none⟩) (xs := xs) (by rw [hxl.out]; rfl))
          have P1 := Lib.hid (P.out w5 hQ5.out (some ⟨g, o, none⟩) 0 0 (by omega) (HR.out w5 hO5.out))
          have R1 := Lib.hid (fun (W : World) h h2 => R.out W h (some ⟨g, o, none⟩) 0 0 (by omega) (HR.out W h2))
        case' inr.inr.inl =>
          have hM1 : (M : Int) ≤ (c5 : Int) := by omega
          have hM2 : ¬ (c5 = M) := by omega
          have h6' : (D : Int) ≤ 6 := by omega
          have h6m : min (D : Int) 6 = (D : Int) := by omega
          have h6c : (D : Int) ≤ ((c5 - M : Nat) : Int) := by omega
          have HR := Lib.hid (fun (W : World) (h : Own W W1.drew.heap.size 5 1 (some ⟨g, o, none⟩) n c5 (u8s ks)) => (HXS.out ▸ part_rd h hcs hlt5 : Rd W W.heap.size (some ⟨g, o + M, none⟩) (u8s xs)))
          have P1 := Lib.hid (P.out w5 hQ5.out (some ⟨g, o + M, none⟩) D (c5 - M) (by omega) (HR.out w5 hO5.out))
          have R1 := Lib.hid (fun (W : World) h h2 => R.out W h (some ⟨g, o + M, none⟩) D (c5 - M) (by omega) (HR.out W h2))
        case' inr.inr.inr =>
          have hM1 : (M : Int) ≤ (c5 : Int) := by omega
          have hM2 : ¬ (c5 = M) := by omega
          have h6' : (6 : Int) < (D : Int) := by omega
          have h6m : min (D : Int) 6 = 6 := by omega
          have h6c : (6 : Int) ≤ ((c5 - M : Nat) : Int) := by omega
          have HR := Lib.hid (fun (W : World) (h : Own W W1.drew.heap.size 5 1 (some ⟨g, o, none⟩) n c5 (u8s ks)) => (HXS.out ▸ part_rd h hcs hlt5 : Rd W W.heap.size (some ⟨g, o + M, none⟩) (u8s xs)))
          have P1 := Lib.hid (P.out w5 hQ5.out (some ⟨g, o + M, none⟩) 6 (c5 - M) (by omega) (HR.out w5 hO5.out))
          have R1 := Lib.hid (fun (W : World) h h2 => R.out W h (some ⟨g, o + M, none⟩) 6 (c5 - M) (by omega) (HR.out W h2))
        all_goals
          clear P R hcut
          go_wp2_with fail
          refine P1.out.mono ?_
          rintro e w7 ⟨rfl, hP7, hc7⟩
          have hO7 := hO5.out.chT hc7 (by decide)
          have R2 := Lib.hid (R1.out w7 hP7 hO7)
          clear hO7 R1 P1
          go_wp2_with fail
          refine R2.out.mono ?_
          rintro e w6 ⟨rfl, hP6, hc6⟩
          have HCC := Lib.hid ((hC5.out.trans hc7).trans hc6)
          clear R2 hP7 hc7 hc6
          have hcc : ChT w.heap.size [41, 49, 51] W1 w6 := HCC.out
          have L := Lib.hid fun nq => FB.out nq w6 _ hP6
          obtain ⟨v2, v3, v4, v5, hbk⟩ := hP6.r.six
          have c1 : w6.cell? ⟨q, 1, none⟩ = some (.int .u8 a2.shut) := (hbk.cell 1).trans rfl
          clear hbk
          go_wp2_with fail
          go_quiet ((go_at_call 13; exact Calls.quiet_of_same ((L.out _).mono (by rintro e w' ⟨rfl, rfl⟩; exact ⟨rfl, rfl⟩))))
          go_wp2_with fail
          go_roundw
          case rel => exact FIN.out _ _ _ (hP6.below (bel_drewN (Below.refl _ _) nq)) (hcc.drewN nq) (by go_num)
          case measure => simp [intOf]; omega
      · have R1 := Lib.hid (relock_any hQ1'.out.p)
        go_wp2_with fail
        refine R1.out.mono ?_
        rintro e w5 ⟨rfl, L5, hc5⟩
        have hk5 := hQ1'.out.r.chT hc5 (by decide) (by decide)
        have R2 := Lib.hid (rrelock_any hk5)
        have hz5 := hc5.size
        go_wp2_with fail
        refine R2.out.mono ?_
        rintro e w6 ⟨rfl, K6, hc6⟩
        have hz6 := hc6.size
        have hP6 : PL w.heap.size p q ⟨a.all, a.all, none⟩ ⟨a.all, a.all, none⟩ w6 := ⟨L5.chT hc6 (by decide) (by decide) (by decide), K6, by omega⟩
        have hcc : ChT w.heap.size [41, 49, 51] W1 w6 := (hc5.mono (Nat.le_refl _) (by simp)).trans (hc6.mono (Nat.le_refl _) (by simp))
        have L := Lib.hid fun nq => FB.out nq w6 _ hP6
        obtain ⟨v2, v3, v4, v5, hbk⟩ := hP6.r.six
        have c1 : w6.cell? ⟨q, 1, none⟩ = some (.int .u8 a.all) := (hbk.cell 1).trans rfl
        clear R1 R2 hk5 hbk K6 L5
        go_wp2_with fail
        go_quiet ((go_at_call 13; exact Calls.quiet_of_same ((L.out _).mono (by rintro e w' ⟨rfl, rfl⟩; exact ⟨rfl, rfl⟩))))
        go_wp2_with fail
        go_roundw
        case rel => exact FIN.out _ _ _ (hP6.below (bel_drewN (Below.refl _ _) nq)) (hcc.drewN nq) (by go_num)
        case measure => simp [intOf]; omega
      · obtain ⟨a2, n2, ys, e2, hE⟩ : ∃ a2 n2 ys e2, seedX a 1 ores ob = (a2, n2, ys, e2) := ⟨_, _, _, _, rfl⟩
        have X1 := oin1.out
        have hS : SS w.heap.size wr.heap.size #[.int .u8 ok, .int .u8 om, .int .u8 ores, .int .i64 oleft, .slice oA on oc] W1 W1 := ⟨H39.out, ChT.refl _ _ _⟩
        have P := Lib.hid (hQ1'.out.seed 1 ores (by decide) X1.r0 X1.r1 oA on oc ob X1.bl X1.br X1.bb hE)
        have R := Lib.hid (fun (w' : World) (h : PL w.heap.size p q a2 a w') (hb : Below w.heap.size W1 w') => h.rseed 1 ores (by decide) X1.r0 X1.r1 oA on oc ob X1.bl (X1.br.below hb) X1.bb hE)
        have hnn : (n2 != n2) = false := by simp
        have hee : (e2 != e2) = false := by simp
        have bf := H39.out.frozen
        clear hE X1
        go_wp2_with fail
        refine P.out.mono ?_
        rintro e w5 ⟨A5, m5, c5, rfl, hm5, ho5, hP5, hc5⟩
        have hS5 := hS.step hc5
        have bc5 := hS5.1.cell
        clear P bc
        go_wp2_with fail
        refine (R.out _ hP5 (hc5.below hz1)).mono ?_
        rintro e w6 ⟨A6, m6, c6, rfl, hm6, ho6, hP6, hc6⟩
        obtain rfl : m5 = m6 := by omega
        have HCC := Lib.hid (hS5.step hc6).2
        have cv5 := (ho5.chT hc6 (by decide)).conv (n := m5) (P := Try.prog) (src := 22) (dst := 9) Try.underlying22 Try.underlying5 Try.underlying9 hm5.symm w6 (Below.refl _ _)
        have cv6 := ho6.conv (n := m5) (P := Try.prog) (src := 22) (dst := 9) Try.underlying22 Try.underlying5 Try.underlying9 hm5.symm w6 (Below.refl _ _)
        obtain ⟨sy, hsy⟩ : ∃ sy, bstr ys = sy := ⟨_, rfl⟩
        rw [hsy] at cv5 cv6
        clear R hS hS5 hP5 hc5 hc6 bc5 ho5 ho6 hsy hm5 hm6
        have hcc : ChT w.heap.size [41, 49, 51] W1 w6 := HCC.out
        have L := Lib.hid fun nq => FB.out nq w6 _ hP6
        obtain ⟨v2, v3, v4, v5, hbk⟩ := hP6.r.six
        have c1 : w6.cell? ⟨q, 1, none⟩ = some (.int .u8 a2.shut) := (hbk.cell 1).trans rfl
        clear hbk
        go_wp2_with fail
        go_quiet ((go_at_call 13; exact Calls.quiet_of_same ((L.out _).mono (by rintro e w' ⟨rfl, rfl⟩; exact ⟨rfl, rfl⟩))))
        go_wp2_with fail
        go_roundw
        case rel => exact FIN.out _ _ _ (hP6.below (bel_drewN (Below.refl _ _) nq)) (hcc.drewN nq) (by go_num)
        case measure => simp [intOf]; omega
    · obtain rfl : k = N := by omega
      have K1 := Lib.hid (fun (W : World) (g : Nat) (h : Rd W W.heap.size (some ⟨g, 0, none⟩) (u8s [115, 101, 101, 100])) => key_any (some ⟨g, 0, none⟩) 4 4 [115, 101, 101, 100] res W rfl h (by decide) hr0 hr1)
      have K2 := Lib.hid (fun (W : World) (g : Nat) (h : Rd W W.heap.size (some ⟨g, 0, none⟩) (u8s [115, 101, 101, 100])) => rkey_any (some ⟨g, 0, none⟩) 4 4 [115, 101, 101, 100] res W rfl h (by decide) hr0 hr1)
      obtain ⟨sk, hsk⟩ : ∃ sk, bstr (keyL [115, 101, 101, 100] res) = sk := ⟨_, rfl⟩
      have HSK := Lib.hid hsk
      clear hsk
      go_upto_region 34 with fail
      have HBW : Hid (Below w.heap.size w wr) := Lib.hid (b4'.trans (hbr))
      have HBZ : Hid (w.heap.size ≤ wr.heap.size) := Lib.hid (by omega)
      have bbw0 : Below wr.heap.size wr wr.drew := (Below.refl _ _).drew
      refine wp_region_held_drew (S := fun w' => Below wr.heap.size wr w') (by kernel_rfl) bbw0 (fun hHeld => ?_)
      obtain ⟨w0, hw0⟩ : ∃ W, wr.drew = W := ⟨_, rfl⟩
      rw [hw0] at bbw0 hHeld ⊢
      clear hw0
      refine wpAnyH_take (i := 0) (oi := _) (v := ?_) rfl (by kernel_rfl) (by kernel_rfl) (by kernel_rfl) (fun _ _ _ h => h) (Or.inl ⟨by rfl, ?_⟩) (by assumption) ?_
      rotate_left
      · intro w' hSw
        go_simp
        first | done | with_reducible rfl
      try simp only [Act.put, List.setIfInBounds_toArray, List.set_cons_zero, List.set_cons_succ]
      refine wpAnyH_take (i := 1) (oi := _) (v := ?_) rfl (by kernel_rfl) (by kernel_rfl) (by kernel_rfl) (fun _ _ _ h => h) (Or.inl ⟨by rfl, ?_⟩) (by assumption) ?_
      rotate_left
      · intro w' hSw
        go_simp
        first | done | with_reducible rfl
      try simp only [Act.put, List.setIfInBounds_toArray, List.set_cons_zero, List.set_cons_succ]
      refine wpAnyH_take (i := 4) (oi := _) (v := ?_) rfl (by kernel_rfl) (by kernel_rfl) (by kernel_rfl) (fun _ _ _ h => h) (Or.inl ⟨by rfl, ?_⟩) (by assumption) ?_
      rotate_left
      · intro w' hSw
        go_simp
        first | done | with_reducible rfl
      try simp only [Act.put, List.setIfInBounds_toArray, List.set_cons_zero, List.set_cons_succ]
      refine wpAnyH_take (i := 9) (oi := _) (v := ?_) rfl (by kernel_rfl) (by kernel_rfl) (by kernel_rfl) (fun _ _ _ h => h) (Or.inl ⟨by rfl, ?_⟩) (by assumption) ?_
      rotate_left
      · intro w' hSw
        go_simp
        first | done | with_reducible rfl
      try simp only [Act.put, List.setIfInBounds_toArray, List.set_cons_zero, List.set_cons_succ]
      clear hHeld
      refine wpAnyH_ready (rs := [2, 7]) (by kernel_rfl) (by simp) ?_
      refine AllReadyH.cons rfl (fun K hK => ?_) ?_
      ·
        go_simp
        obtain ⟨v1, hv1⟩ : ∃ W, w0.alloc (.cells #[.int .u8 115, .int .u8 101, .int .u8 101, .int .u8 100] 5) = W := ⟨_, rfl⟩
        obtain ⟨g1, hg1⟩ : ∃ g, w0.heap.size = g := ⟨_, rfl⟩
        have B1_v1 : Blk v1 g1 5 #[.int .u8 115, .int .u8 101, .int .u8 101, .int .u8 100] := by rw [← hv1, ← hg1]; exact Blk.new _ _ _
        have xv1 : Below w0.heap.size w0 v1 := by rw [← hv1]; exact bl1 _ _
        have bbv1 := bbw0.trans (xv1.mono bbw0.size)
        have chv1 := Chg.of_below xv1 (fun _ => False)
        have lt1_v1 : g1 < v1.heap.size := B1_v1.lt
        have ge1 : wr.heap.size ≤ g1 := by rw [← hg1]; exact bbw0.size
        refine hK.out _ _ ?_ (fun hHeld => ?_)
        · exact hv1 ▸ bbv1
        rw [hv1]
        rw [hg1]
        clear hK K hHeld hv1 hg1
        refine wpAnyH_ready (rs := [3, 7]) (by kernel_rfl) (by simp) ?_
        refine AllReadyH.cons rfl (fun K hK => ?_) ?_
        ·
          have M1_v2 := freeze_rd (C := u8s [115, 101, 101, 100]) B1_v1 4
          have chv2 := freeze_chg v1 g1 4
          obtain ⟨v2, hv2⟩ : ∃ W, v1.freeze ⟨g1, 4, none⟩ 1 = W := ⟨_, rfl⟩
          have cm : (convert 22 22 (.slice (some ⟨g1, 0, none⟩) 4 4)).run Try.prog v1 = .ok (.slice (some ⟨g1, 0, none⟩) 4 4) v2 := by rw [← hv2]; exact conv_mark B1_v1 4 4
          rw [hv2] at M1_v2 chv2
          have bbv2 : Below wr.heap.size wr v2 := bbv1.trans (chv2.below (fun i _ e => by subst e; exact ge1) bbv1.size)
          have lt1_v2 : g1 < v2.heap.size := Nat.lt_of_lt_of_le lt1_v1 chv2.size
          clear hv2
          go_simp
          refine hK.out _ _ ?_ (fun hHeld => ?_)
          · exact bbv2
          clear hK K hHeld cm
          refine wpAnyH_ready (rs := [5, 7]) (by kernel_rfl) (by simp) ?_
          refine AllReadyH.cons rfl (fun K hK => ?_) ?_
          ·
            go_simp
            refine (K1.out v2 g1 M1_v2).mono ?_
            rintro e v3 ⟨A5, c5, rfl, O1_v3, xv3⟩
            have bbv3 := bbv2.trans (xv3.mono bbv2.size)
            have chv3 := Chg.of_below xv3 (fun _ => False)
            have lt1_v3 : g1 < v3.heap.size := Nat.lt_of_lt_of_le lt1_v2 chv3.size
            go_simp
            refine hK.out _ _ ?_ (fun hHeld => ?_)
            · exact bbv3
            clear hK K hHeld
            have CV : Hid (∀ W' B, Rd W' B A5 (u8s (keyL [115, 101, 101, 100] res)) → (convert 22 9 (.slice A5 4 c5)).run Try.prog W' = .ok (.string sk) W') := Lib.hid fun W' B h => by rw [← HSK.out]; exact run_conv Try.underlying22 Try.underlying5 Try.underlying9 A5 _ 4 c5 B W' h rfl
            refine wpAnyH_imp (S' := fun w' => Below wr.heap.size wr w' ∧ (convert 22 9 (.slice A5 4 c5)).run Try.prog w' = .ok (.string sk) w') (fun w' h => h.1) _ _ _ _ ?_
            have hHeld : Below wr.heap.size wr v3 ∧ (convert 22 9 (.slice A5 4 c5)).run Try.prog v3 = .ok (.string sk) v3 := ⟨bbv3, CV.out _ _ O1_v3.rd⟩
            refine wpAnyH_take (i := 6) (oi := _) (v := ?_) rfl (by kernel_rfl) (by kernel_rfl) (by kernel_rfl) (fun _ _ _ h => h) (Or.inl ⟨by rfl, ?_⟩) (by assumption) ?_
            rotate_left
            · intro w' hSw
              obtain ⟨_, hcv⟩ := hSw
              go_simp
              first | done | with_reducible rfl
            try simp only [Act.put, List.setIfInBounds_toArray, List.set_cons_zero, List.set_cons_succ]
            clear hHeld
            refine wpAnyH_ready (rs := [7]) (by kernel_rfl) (by simp) ?_
            refine AllReadyH.cons rfl (fun K hK => ?_) ?_
            ·
              go_simp
              obtain ⟨v4, hv4⟩ : ∃ W, v3.alloc (.cells #[.int .u8 115, .int .u8 101, .int .u8 101, .int .u8 100] 5) = W := ⟨_, rfl⟩
              obtain ⟨g2, hg2⟩ : ∃ g, v3.heap.size = g := ⟨_, rfl⟩
              have B2_v4 : Blk v4 g2 5 #[.int .u8 115, .int .u8 101, .int .u8 101, .int .u8 100] := by rw [← hv4, ← hg2]; exact Blk.new _ _ _
              have xv4 : Below v3.heap.size v3 v4 := by rw [← hv4]; exact bl1 _ _
              have bbv4 := bbv3.trans (xv4.mono bbv3.size)
              have chv4 := Chg.of_below xv4 (fun _ => False)
              have lt2_v4 : g2 < v4.heap.size := B2_v4.lt
              have ge2 : wr.heap.size ≤ g2 := by rw [← hg2]; exact bbv3.size
              have hne12 : g1 ≠ g2 := by omega
              have hA5 : ∀ g', blkOf A5 = some g' → g' ≠ g2 := fun g' hg' => by have hx := (O1_v3.lt hg').2; omega
              have O1_v4 := O1_v3.chg chv4 (fun _ _ h => h)
              have lt1_v4 : g1 < v4.heap.size := Nat.lt_of_lt_of_le lt1_v3 chv4.size
              refine hK.out _ _ ?_ (fun hHeld => ?_)
              · exact hv4 ▸ ⟨bbv4, CV.out v4 _ (O1_v4.rd)⟩
              rw [hv4]
              rw [hg2]
              clear hK K hHeld hv4 hg2
              refine wpAnyH_ready (rs := [8]) (by kernel_rfl) (by simp) ?_
              refine AllReadyH.cons rfl (fun K hK => ?_) ?_
              ·
                have M2_v5 := freeze_rd (C := u8s [115, 101, 101, 100]) B2_v4 4
                have chv5 := freeze_chg v4 g2 4
                obtain ⟨v5, hv5⟩ : ∃ W, v4.freeze ⟨g2, 4, none⟩ 1 = W := ⟨_, rfl⟩
                have cm : (convert 22 22 (.slice (some ⟨g2, 0, none⟩) 4 4)).run Try.prog v4 = .ok (.slice (some ⟨g2, 0, none⟩) 4 4) v5 := by rw [← hv5]; exact conv_mark B2_v4 4 4
                rw [hv5] at M2_v5 chv5
                have bbv5 : Below wr.heap.size wr v5 := bbv4.trans (chv5.below (fun i _ e => by subst e; exact ge2) bbv4.size)
                have lt2_v5 : g2 < v5.heap.size := Nat.lt_of_lt_of_le lt2_v4 chv5.size
                have O1_v5 := O1_v4.chg chv5 (fun g' hg' (e : g' = g2) => by have hx := hA5 g' hg'; omega)
                have lt1_v5 : g1 < v5.heap.size := Nat.lt_of_lt_of_le lt1_v4 chv5.size
                clear hv5
                go_simp
                refine hK.out _ _ ?_ (fun hHeld => ?_)
                · exact ⟨bbv5, CV.out v5 _ (O1_v5.rd)⟩
                clear hK K hHeld cm
                refine wpAnyH_ready (rs := [10]) (by kernel_rfl) (by simp) ?_
                refine AllReadyH.cons rfl (fun K hK => ?_) ?_
                ·
                  go_simp
                  refine (K2.out v5 g2 M2_v5).mono ?_
                  rintro e v6 ⟨A6, c6, rfl, O2_v6, xv6⟩
                  have bbv6 := bbv5.trans (xv6.mono bbv5.size)
                  have chv6 := Chg.of_below xv6 (fun _ => False)
                  have lt2_v6 : g2 < v6.heap.size := Nat.lt_of_lt_of_le lt2_v5 chv6.size
                  have O1_v6 := O1_v5.chg chv6 (fun _ _ h => h)
                  have lt1_v6 : g1 < v6.heap.size := Nat.lt_of_lt_of_le lt1_v5 chv6.size
                  go_simp
                  refine hK.out _ _ ?_ (fun hHeld => ?_)
                  · exact ⟨bbv6, CV.out v6 _ (O1_v6.rd)⟩
                  clear hK K hHeld
                  have hcv2 : (convert 22 9 (.slice A6 4 c6)).run Try.prog v6 = .ok (.string sk) v6 := by rw [← HSK.out]; exact run_conv Try.underlying22 Try.underlying5 Try.underlying9 A6 _ 4 c6 _ _ O2_v6.rd rfl
                  refine wpAnyH_imp (S' := fun w' => w' = v6) (fun w' e => by rw [e]; exact ⟨bbv6, CV.out v6 _ (O1_v6.rd)⟩) _ _ _ _ ?_
                  have hrf : v6 = v6 := rfl
                  refine wpAnyH_take (i := 11) (oi := _) (v := ?_) rfl (by kernel_rfl) (by kernel_rfl) (by kernel_rfl) (fun _ _ _ h => h) (Or.inl ⟨by rfl, ?_⟩) (by assumption) ?_
                  rotate_left
                  · intro w' hSw
                    subst hSw
                    go_simp
                    first | done | with_reducible rfl
                  try simp only [Act.put, List.setIfInBounds_toArray, List.set_cons_zero, List.set_cons_succ]
                  refine wpAnyH_take (i := 12) (oi := _) (v := ?_) rfl (by kernel_rfl) (by kernel_rfl) (by kernel_rfl) (fun _ _ _ h => h) (Or.inl ⟨by rfl, ?_⟩) (by assumption) ?_
                  rotate_left
                  · intro w' hSw
                    go_simp
                    first | done | with_reducible rfl
                  try simp only [Act.put, List.setIfInBounds_toArray, List.set_cons_zero, List.set_cons_succ]
                  refine wpAnyH_take (i := 13) (oi := _) (v := ?_) rfl (by kernel_rfl) (by kernel_rfl) (by kernel_rfl) (fun _ _ _ h => h) (Or.inl ⟨by rfl, ?_⟩) (by assumption) ?_
                  rotate_left
                  · intro w' hSw
                    go_simp
                    first | done | with_reducible rfl
                  try simp only [Act.put, List.setIfInBounds_toArray, List.set_cons_zero, List.set_cons_succ]
                  refine wpAnyH_ready (rs := [14]) (by kernel_rfl) (by simp) ?_
                  refine AllReadyH.cons rfl (fun K hK => ?_) AllReadyH.nil
                  go_simp
                  refine hK.out _ _ ?_ (fun hHeld => ?_)
                  · rfl
                  clear hK K
                  refine wpAnyH_done (by kernel_rfl) ?_ _
                  go_wp2_with fail
                  go_ret
                  exact ⟨rfl, HBW.out.trans (bbv6.mono HBZ.out)⟩
                exact AllReadyH.nil
              exact AllReadyH.nil
            exact AllReadyH.nil
          refine AllReadyH.cons rfl (fun K hK => ?_) ?_
          ·
            go_simp
            obtain ⟨v7, hv7⟩ : ∃ W, v2.alloc (.cells #[.int .u8 115, .int .u8 101, .int .u8 101, .int .u8 100] 5) = W := ⟨_, rfl⟩
            obtain ⟨g2, hg2⟩ : ∃ g, v2.heap.size = g := ⟨_, rfl⟩
            have B2_v7 : Blk v7 g2 5 #[.int .u8 115, .int .u8 101, .int .u8 101, .int .u8 100] := by rw [← hv7, ← hg2]; exact Blk.new _ _ _
            have xv7 : Below v2.heap.size v2 v7 := by rw [← hv7]; exact bl1 _ _
            have bbv7 := bbv2.trans (xv7.mono bbv2.size)
            have chv7 := Chg.of_below xv7 (fun _ => False)
            have lt2_v7 : g2 < v7.heap.size := B2_v7.lt
            have ge2 : wr.heap.size ≤ g2 := by rw [← hg2]; exact bbv2.size
            have hne12 : g1 ≠ g2 := by omega
            have M1_v7 := (M1_v2.chg (Nat.le_refl _) chv7 (fun _ _ h => h)).more chv7.size
            have lt1_v7 : g1 < v7.heap.size := Nat.lt_of_lt_of_le lt1_v2 chv7.size
            refine hK.out _ _ ?_ (fun hHeld => ?_)
            · exact hv7 ▸ bbv7
            rw [hv7]
            rw [hg2]
            clear hK K hHeld hv7 hg2
            refine wpAnyH_ready (rs := [5, 8]) (by kernel_rfl) (by simp) ?_
            refine AllReadyH.cons rfl (fun K hK => ?_) ?_
            ·
              go_simp
              refine (K1.out v7 g1 M1_v7).mono ?_
              rintro e v8 ⟨A5, c5, rfl, O1_v8, xv8⟩
              have bbv8 := bbv7.trans (xv8.mono bbv7.size)
              have chv8 := Chg.of_below xv8 (fun _ => False)
              have lt1_v8 : g1 < v8.heap.size := Nat.lt_of_lt_of_le lt1_v7 chv8.size
              have hA5 : ∀ g', blkOf A5 = some g' → g' ≠ g2 := fun g' hg' => by have hx := (O1_v8.lt hg').1; omega
              have B2_v8 := B2_v7.chg chv8 (fun h => h)
              have lt2_v8 : g2 < v8.heap.size := Nat.lt_of_lt_of_le lt2_v7 chv8.size
              go_simp
              refine hK.out _ _ ?_ (fun hHeld => ?_)
              · exact bbv8
              clear hK K hHeld
              have CV : Hid (∀ W' B, Rd W' B A5 (u8s (keyL [115, 101, 101, 100] res)) → (convert 22 9 (.slice A5 4 c5)).run Try.prog W' = .ok (.string sk) W') := Lib.hid fun W' B h => by rw [← HSK.out]; exact run_conv Try.underlying22 Try.underlying5 Try.underlying9 A5 _ 4 c5 B W' h rfl
              refine wpAnyH_imp (S' := fun w' => Below wr.heap.size wr w' ∧ (convert 22 9 (.slice A5 4 c5)).run Try.prog w' = .ok (.string sk) w') (fun w' h => h.1) _ _ _ _ ?_
              have hHeld : Below wr.heap.size wr v8 ∧ (convert 22 9 (.slice A5 4 c5)).run Try.prog v8 = .ok (.string sk) v8 := ⟨bbv8, CV.out _ _ O1_v8.rd⟩
              refine wpAnyH_take (i := 6) (oi := _) (v := ?_) rfl (by kernel_rfl) (by kernel_rfl) (by kernel_rfl) (fun _ _ _ h => h) (Or.inl ⟨by rfl, ?_⟩) (by assumption) ?_
              rotate_left
              · intro w' hSw
                obtain ⟨_, hcv⟩ := hSw
                go_simp
                first | done | with_reducible rfl
              try simp only [Act.put, List.setIfInBounds_toArray, List.set_cons_zero, List.set_cons_succ]
              clear hHeld
              refine wpAnyH_ready (rs := [8]) (by kernel_rfl) (by simp) ?_
              refine AllReadyH.cons rfl (fun K hK => ?_) ?_
              ·
                have M2_v9 := freeze_rd (C := u8s [115, 101, 101, 100]) B2_v8 4
                have chv9 := freeze_chg v8 g2 4
                obtain ⟨v9, hv9⟩ : ∃ W, v8.freeze ⟨g2, 4, none⟩ 1 = W := ⟨_, rfl⟩
                have cm : (convert 22 22 (.slice (some ⟨g2, 0, none⟩) 4 4)).run Try.prog v8 = .ok (.slice (some ⟨g2, 0, none⟩) 4 4) v9 := by rw [← hv9]; exact conv_mark B2_v8 4 4
                rw [hv9] at M2_v9 chv9
                have bbv9 : Below wr.heap.size wr v9 := bbv8.trans (chv9.below (fun i _ e => by subst e; exact ge2) bbv8.size)
                have lt2_v9 : g2 < v9.heap.size := Nat.lt_of_lt_of_le lt2_v8 chv9.size
                have O1_v9 := O1_v8.chg chv9 (fun g' hg' (e : g' = g2) => by have hx := hA5 g' hg'; omega)
                have lt1_v9 : g1 < v9.heap.size := Nat.lt_of_lt_of_le lt1_v8 chv9.size
                clear hv9
                go_simp
                refine hK.out _ _ ?_ (fun hHeld => ?_)
                · exact ⟨bbv9, CV.out v9 _ (O1_v9.rd)⟩
                clear hK K hHeld cm
                refine wpAnyH_ready (rs := [10]) (by kernel_rfl) (by simp) ?_
                refine AllReadyH.cons rfl (fun K hK => ?_) ?_
                ·
                  go_simp
                  refine (K2.out v9 g2 M2_v9).mono ?_
                  rintro e v10 ⟨A6, c6, rfl, O2_v10, xv10⟩
                  have bbv10 := bbv9.trans (xv10.mono bbv9.size)
                  have chv10 := Chg.of_below xv10 (fun _ => False)
                  have lt2_v10 : g2 < v10.heap.size := Nat.lt_of_lt_of_le lt2_v9 chv10.size
                  have O1_v10 := O1_v9.chg chv10 (fun _ _ h => h)
                  have lt1_v10 : g1 < v10.heap.size := Nat.lt_of_lt_of_le lt1_v9 chv10.size
                  go_simp
                  refine hK.out _ _ ?_ (fun hHeld => ?_)
                  · exact ⟨bbv10, CV.out v10 _ (O1_v10.rd)⟩
                  clear hK K hHeld
                  have hcv2 : (convert 22 9 (.slice A6 4 c6)).run Try.prog v10 = .ok (.string sk) v10 := by rw [← HSK.out]; exact run_conv Try.underlying22 Try.underlying5 Try.underlying9 A6 _ 4 c6 _ _ O2_v10.rd rfl
                  refine wpAnyH_imp (S' := fun w' => w' = v10) (fun w' e => by rw [e]; exact ⟨bbv10, CV.out v10 _ (O1_v10.rd)⟩) _ _ _ _ ?_
                  have hrf : v10 = v10 := rfl
                  refine wpAnyH_take (i := 11) (oi := _) (v := ?_) rfl (by kernel_rfl) (by kernel_rfl) (by kernel_rfl) (fun _ _ _ h => h) (Or.inl ⟨by rfl, ?_⟩) (by assumption) ?_
                  rotate_left
                  · intro w' hSw
                    subst hSw
                    go_simp
                    first | done | with_reducible rfl
                  try simp only [Act.put, List.setIfInBounds_toArray, List.set_cons_zero, List.set_cons_succ]
                  refine wpAnyH_take (i := 12) (oi := _) (v := ?_) rfl (by kernel_rfl) (by kernel_rfl) (by kernel_rfl) (fun _ _ _ h => h) (Or.inl ⟨by rfl, ?_⟩) (by assumption) ?_
                  rotate_left
                  · intro w' hSw
                    go_simp
                    first | done | with_reducible rfl
                  try simp only [Act.put, List.setIfInBounds_toArray, List.set_cons_zero, List.set_cons_succ]
                  refine wpAnyH_take (i := 13) (oi := _) (v := ?_) rfl (by kernel_rfl) (by kernel_rfl) (by kernel_rfl) (fun _ _ _ h => h) (Or.inl ⟨by rfl, ?_⟩) (by assumption) ?_
                  rotate_left
                  · intro w' hSw
                    go_simp
                    first | done | with_reducible rfl
                  try simp only [Act.put, List.setIfInBounds_toArray, List.set_cons_zero, List.set_cons_succ]
                  refine wpAnyH_ready (rs := [14]) (by kernel_rfl) (by simp) ?_
                  refine AllReadyH.cons rfl (fun K hK => ?_) AllReadyH.nil
                  go_simp
                  refine hK.out _ _ ?_ (fun hHeld => ?_)
                  · rfl
                  clear hK K
                  refine wpAnyH_done (by kernel_rfl) ?_ _
                  go_wp2_with fail
                  go_ret
                  exact ⟨rfl, HBW.out.trans (bbv10.mono HBZ.out)⟩
                exact AllReadyH.nil
              exact AllReadyH.nil
            refine AllReadyH.cons rfl (fun K hK => ?_) ?_
            ·
              have M2_v11 := freeze_rd (C := u8s [115, 101, 101, 100]) B2_v7 4
              have chv11 := freeze_chg v7 g2 4
              obtain ⟨v11, hv11⟩ : ∃ W, v7.freeze ⟨g2, 4, none⟩ 1 = W := ⟨_, rfl⟩
              have cm : (convert 22 22 (.slice (some ⟨g2, 0, none⟩) 4 4)).run Try.prog v7 = .ok (.slice (some ⟨g2, 0, none⟩) 4 4) v11 := by rw [← hv11]; exact conv_mark B2_v7 4 4
              rw [hv11] at M2_v11 chv11
              have bbv11 : Below wr.heap.size wr v11 := bbv7.trans (chv11.below (fun i _ e => by subst e; exact ge2) bbv7.size)
              have lt2_v11 : g2 < v11.heap.size := Nat.lt_of_lt_of_le lt2_v7 chv11.size
              have M1_v11 := (M1_v7.chg (Nat.le_refl _) chv11 (fun g' hg' (e : g' = g2) => by simp [blkOf] at hg'; omega)).more chv11.size
              have lt1_v11 : g1 < v11.heap.size := Nat.lt_of_lt_of_le lt1_v7 chv11.size
              clear hv11
              go_simp
              refine hK.out _ _ ?_ (fun hHeld => ?_)
              · exact bbv11
              clear hK K hHeld cm
              refine wpAnyH_ready (rs := [5]) (by kernel_rfl) (by simp) ?_
              refine AllReadyH.cons rfl (fun K hK => ?_) ?_
              ·
                go_simp
                refine (K1.out v11 g1 M1_v11).mono ?_
                rintro e v12 ⟨A5, c5, rfl, O1_v12, xv12⟩
                have bbv12 := bbv11.trans (xv12.mono bbv11.size)
                have chv12 := Chg.of_below xv12 (fun _ => False)
                have lt1_v12 : g1 < v12.heap.size := Nat.lt_of_lt_of_le lt1_v11 chv12.size
                have hA5 : ∀ g', blkOf A5 = some g' → g' ≠ g2 := fun g' hg' => by have hx := (O1_v12.lt hg').1; omega
                have M2_v12 := (M2_v11.chg (Nat.le_refl _) chv12 (fun _ _ h => h)).more chv12.size
                have lt2_v12 : g2 < v12.heap.size := Nat.lt_of_lt_of_le lt2_v11 chv12.size
                go_simp
                refine hK.out _ _ ?_ (fun hHeld => ?_)
                · exact bbv12
                clear hK K hHeld
                have CV : Hid (∀ W' B, Rd W' B A5 (u8s (keyL [115, 101, 101, 100] res)) → (convert 22 9 (.slice A5 4 c5)).run Try.prog W' = .ok (.string sk) W') := Lib.hid fun W' B h => by rw [← HSK.out]; exact run_conv Try.underlying22 Try.underlying5 Try.underlying9 A5 _ 4 c5 B W' h rfl
                refine wpAnyH_imp (S' := fun w' => Below wr.heap.size wr w' ∧ (convert 22 9 (.slice A5 4 c5)).run Try.prog w' = .ok (.string sk) w') (fun w' h => h.1) _ _ _ _ ?_
                have hHeld : Below wr.heap.size wr v12 ∧ (convert 22 9 (.slice A5 4 c5)).run Try.prog v12 = .ok (.string sk) v12 := ⟨bbv12, CV.out _ _ O1_v12.rd⟩
                refine wpAnyH_take (i := 6) (oi := _) (v := ?_) rfl (by kernel_rfl) (by kernel_rfl) (by kernel_rfl) (fun _ _ _ h => h) (Or.inl ⟨by rfl, ?_⟩) (by assumption) ?_
                rotate_left
                · intro w' hSw
                  obtain ⟨_, hcv⟩ := hSw
                  go_simp
                  first | done | with_reducible rfl
                try simp only [Act.put, List.setIfInBounds_toArray, List.set_cons_zero, List.set_cons_succ]
                clear hHeld
                refine wpAnyH_ready (rs := [10]) (by kernel_rfl) (by simp) ?_
                refine AllReadyH.cons rfl (fun K hK => ?_) ?_
                ·
                  go_simp
                  refine (K2.out v12 g2 M2_v12).mono ?_
                  rintro e v13 ⟨A6, c6, rfl, O2_v13, xv13⟩
                  have bbv13 := bbv12.trans (xv13.mono bbv12.size)
                  have chv13 := Chg.of_below xv13 (fun _ => False)
                  have lt2_v13 : g2 < v13.heap.size := Nat.lt_of_lt_of_le lt2_v12 chv13.size
                  have O1_v13 := O1_v12.chg chv13 (fun _ _ h => h)
                  have lt1_v13 : g1 < v13.heap.size := Nat.lt_of_lt_of_le lt1_v12 chv13.size
                  go_simp
                  refine hK.out _ _ ?_ (fun hHeld => ?_)
                  · exact ⟨bbv13, CV.out v13 _ (O1_v13.rd)⟩
                  clear hK K hHeld
                  have hcv2 : (convert 22 9 (.slice A6 4 c6)).run Try.prog v13 = .ok (.string sk) v13 := by rw [← HSK.out]; exact run_conv Try.underlying22 Try.underlying5 Try.underlying9 A6 _ 4 c6 _ _ O2_v13.rd rfl
                  refine wpAnyH_imp (S' := fun w' => w' = v13) (fun w' e => by rw [e]; exact ⟨bbv13, CV.out v13 _ (O1_v13.rd)⟩) _ _ _ _ ?_
                  have hrf : v13 = v13 := rfl
                  refine wpAnyH_take (i := 11) (oi := _) (v := ?_) rfl (by kernel_rfl) (by kernel_rfl) (by kernel_rfl) (fun _ _ _ h => h) (Or.inl ⟨by rfl, ?_⟩) (by assumption) ?_
                  rotate_left
                  · intro w' hSw
                    subst hSw
                    go_simp
                    first | done | with_reducible rfl
                  try simp only [Act.put, List.setIfInBounds_toArray, List.set_cons_zero, List.set_cons_succ]
                  refine wpAnyH_take (i := 12) (oi := _) (v := ?_) rfl (by kernel_rfl) (by kernel_rfl) (by kernel_rfl) (fun _ _ _ h => h) (Or.inl ⟨by rfl, ?_⟩) (by assumption) ?_
                  rotate_left
                  · intro w' hSw
                    go_simp
                    first | done | with_reducible rfl
                  try simp only [Act.put, List.setIfInBounds_toArray, List.set_cons_zero, List.set_cons_succ]
                  refine wpAnyH_take (i := 13) (oi := _) (v := ?_) rfl (by kernel_rfl) (by kernel_rfl) (by kernel_rfl) (fun _ _ _ h => h) (Or.inl ⟨by rfl, ?_⟩) (by assumption) ?_
                  rotate_left
                  · intro w' hSw
                    go_simp
                    first | done | with_reducible rfl
                  try simp only [Act.put, List.setIfInBounds_toArray, List.set_cons_zero, List.set_cons_succ]
                  refine wpAnyH_ready (rs := [14]) (by kernel_rfl) (by simp) ?_
                  refine AllReadyH.cons rfl (fun K hK => ?_) AllReadyH.nil
                  go_simp
                  refine hK.out _ _ ?_ (fun hHeld => ?_)
                  · rfl
                  clear hK K
                  refine wpAnyH_done (by kernel_rfl) ?_ _
                  go_wp2_with fail
                  go_ret
                  exact ⟨rfl, HBW.out.trans (bbv13.mono HBZ.out)⟩
                exact AllReadyH.nil
              exact AllReadyH.nil
            exact AllReadyH.nil
          exact AllReadyH.nil
        refine AllReadyH.cons rfl (fun K hK => ?_) ?_
        ·
          go_simp
          obtain ⟨v14, hv14⟩ : ∃ W, v1.alloc (.cells #[.int .u8 115, .int .u8 101, .int .u8 101, .int .u8 100] 5) = W := ⟨_, rfl⟩
          obtain ⟨g2, hg2⟩ : ∃ g, v1.heap.size = g := ⟨_, rfl⟩
          have B2_v14 : Blk v14 g2 5 #[.int .u8 115, .int .u8 101, .int .u8 101, .int .u8 100] := by rw [← hv14, ← hg2]; exact Blk.new _ _ _
          have xv14 : Below v1.heap.size v1 v14 := by rw [← hv14]; exact bl1 _ _
          have bbv14 := bbv1.trans (xv14.mono bbv1.size)
          have chv14 := Chg.of_below xv14 (fun _ => False)
          have lt2_v14 : g2 < v14.heap.size := B2_v14.lt
          have ge2 : wr.heap.size ≤ g2 := by rw [← hg2]; exact bbv1.size
          have hne12 : g1 ≠ g2 := by omega
          have B1_v14 := B1_v1.chg chv14 (fun h => h)
          have lt1_v14 : g1 < v14.heap.size := Nat.lt_of_lt_of_le lt1_v1 chv14.size
          refine hK.out _ _ ?_ (fun hHeld => ?_)
          · exact hv14 ▸ bbv14
          rw [hv14]
          rw [hg2]
          clear hK K hHeld hv14 hg2
          refine wpAnyH_ready (rs := [3, 8]) (by kernel_rfl) (by simp) ?_
          refine AllReadyH.cons rfl (fun K hK => ?_) ?_
          ·
            have M1_v15 := freeze_rd (C := u8s [115, 101, 101, 100]) B1_v14 4
            have chv15 := freeze_chg v14 g1 4
            obtain ⟨v15, hv15⟩ : ∃ W, v14.freeze ⟨g1, 4, none⟩ 1 = W := ⟨_, rfl⟩
            have cm : (convert 22 22 (.slice (some ⟨g1, 0, none⟩) 4 4)).run Try.prog v14 = .ok (.slice (some ⟨g1, 0, none⟩) 4 4) v15 := by rw [← hv15]; exact conv_mark B1_v14 4 4
            rw [hv15] at M1_v15 chv15
            have bbv15 : Below wr.heap.size wr v15 := bbv14.trans (chv15.below (fun i _ e => by subst e; exact ge1) bbv14.size)
            have lt1_v15 : g1 < v15.heap.size := Nat.lt_of_lt_of_le lt1_v14 chv15.size
            have B2_v15 := B2_v14.chg chv15 (fun (e : g2 = g1) => by omega)
            have lt2_v15 : g2 < v15.heap.size := Nat.lt_of_lt_of_le lt2_v14 chv15.size
            clear hv15
            go_simp
            refine hK.out _ _ ?_ (fun hHeld => ?_)
            · exact bbv15
            clear hK K hHeld cm
            refine wpAnyH_ready (rs := [5, 8]) (by kernel_rfl) (by simp) ?_
            refine AllReadyH.cons rfl (fun K hK => ?_) ?_
            ·
              go_simp
              refine (K1.out v15 g1 M1_v15).mono ?_
              rintro e v16 ⟨A5, c5, rfl, O1_v16, xv16⟩
              have bbv16 := bbv15.trans (xv16.mono bbv15.size)
              have chv16 := Chg.of_below xv16 (fun _ => False)
              have lt1_v16 : g1 < v16.heap.size := Nat.lt_of_lt_of_le lt1_v15 chv16.size
              have hA5 : ∀ g', blkOf A5 = some g' → g' ≠ g2 := fun g' hg' => by have hx := (O1_v16.lt hg').1; omega
              have B2_v16 := B2_v15.chg chv16 (fun h => h)
              have lt2_v16 : g2 < v16.heap.size := Nat.lt_of_lt_of_le lt2_v15 chv16.size
              go_simp
              refine hK.out _ _ ?_ (fun hHeld => ?_)
              · exact bbv16
              clear hK K hHeld
              have CV : Hid (∀ W' B, Rd W' B A5 (u8s (keyL [115, 101, 101, 100] res)) → (convert 22 9 (.slice A5 4 c5)).run Try.prog W' = .ok (.string sk) W') := Lib.hid fun W' B h => by rw [← HSK.out]; exact run_conv Try.underlying22 Try.underlying5 Try.underlying9 A5 _ 4 c5 B W' h rfl
              refine wpAnyH_imp (S' := fun w' => Below wr.heap.size wr w' ∧ (convert 22 9 (.slice A5 4 c5)).run Try.prog w' = .ok (.string sk) w') (fun w' h => h.1) _ _ _ _ ?_
              have hHeld : Below wr.heap.size wr v16 ∧ (convert 22 9 (.slice A5 4 c5)).run Try.prog v16 = .ok (.string sk) v16 := ⟨bbv16, CV.out _ _ O1_v16.rd⟩
              refine wpAnyH_take (i := 6) (oi := _) (v := ?_) rfl (by kernel_rfl) (by kernel_rfl) (by kernel_rfl) (fun _ _ _ h => h) (Or.inl ⟨by rfl, ?_⟩) (by assumption) ?_
              rotate_left
              · intro w' hSw
                obtain ⟨_, hcv⟩ := hSw
                go_simp
                first | done | with_reducible rfl
              try simp only [Act.put, List.setIfInBounds_toArray, List.set_cons_zero, List.set_cons_succ]
              clear hHeld
              refine wpAnyH_ready (rs := [8]) (by kernel_rfl) (by simp) ?_
              refine AllReadyH.cons rfl (fun K hK => ?_) ?_
              ·
                have M2_v17 := freeze_rd (C := u8s [115, 101, 101, 100]) B2_v16 4
                have chv17 := freeze_chg v16 g2 4
                obtain ⟨v17, hv17⟩ : ∃ W, v16.freeze ⟨g2, 4, none⟩ 1 = W := ⟨_, rfl⟩
                have cm : (convert 22 22 (.slice (some ⟨g2, 0, none⟩) 4 4)).run Try.prog v16 = .ok (.slice (some ⟨g2, 0, none⟩) 4 4) v17 := by rw [← hv17]; exact conv_mark B2_v16 4 4
                rw [hv17] at M2_v17 chv17
                have bbv17 : Below wr.heap.size wr v17 := bbv16.trans (chv17.below (fun i _ e => by subst e; exact ge2) bbv16.size)
                have lt2_v17 : g2 < v17.heap.size := Nat.lt_of_lt_of_le lt2_v16 chv17.size
                have O1_v17 := O1_v16.chg chv17 (fun g' hg' (e : g' = g2) => by have hx := hA5 g' hg'; omega)
                have lt1_v17 : g1 < v17.heap.size := Nat.lt_of_lt_of_le lt1_v16 chv17.size
                clear hv17
                go_simp
                refine hK.out _ _ ?_ (fun hHeld => ?_)
                · exact ⟨bbv17, CV.out v17 _ (O1_v17.rd)⟩
                clear hK K hHeld cm
                refine wpAnyH_ready (rs := [10]) (by kernel_rfl) (by simp) ?_
                refine AllReadyH.cons rfl (fun K hK => ?_) ?_
                ·
                  go_simp
                  refine (K2.out v17 g2 M2_v17).mono ?_
                  rintro e v18 ⟨A6, c6, rfl, O2_v18, xv18⟩
                  have bbv18 := bbv17.trans (xv18.mono bbv17.size)
                  have chv18 := Chg.of_below xv18 (fun _ => False)
                  have lt2_v18 : g2 < v18.heap.size := Nat.lt_of_lt_of_le lt2_v17 chv18.size
                  have O1_v18 := O1_v17.chg chv18 (fun _ _ h => h)
                  have lt1_v18 : g1 < v18.heap.size := Nat.lt_of_lt_of_le lt1_v17 chv18.size
                  go_simp
                  refine hK.out _ _ ?_ (fun hHeld => ?_)
                  · exact ⟨bbv18, CV.out v18 _ (O1_v18.rd)⟩
                  clear hK K hHeld
                  have hcv2 : (convert 22 9 (.slice A6 4 c6)).run Try.prog v18 = .ok (.string sk) v18 := by rw [← HSK.out]; exact run_conv Try.underlying22 Try.underlying5 Try.underlying9 A6 _ 4 c6 _ _ O2_v18.rd rfl
                  refine wpAnyH_imp (S' := fun w' => w' = v18) (fun w' e => by rw [e]; exact ⟨bbv18, CV.out v18 _ (O1_v18.rd)⟩) _ _ _ _ ?_
                  have hrf : v18 = v18 := rfl
                  refine wpAnyH_take (i := 11) (oi := _) (v := ?_) rfl (by kernel_rfl) (by kernel_rfl) (by kernel_rfl) (fun _ _ _ h => h) (Or.inl ⟨by rfl, ?_⟩) (by assumption) ?_
                  rotate_left
                  · intro w' hSw
                    subst hSw
                    go_simp
                    first | done | with_reducible rfl
                  try simp only [Act.put, List.setIfInBounds_toArray, List.set_cons_zero, List.set_cons_succ]
                  refine wpAnyH_take (i := 12) (oi := _) (v := ?_) rfl (by kernel_rfl) (by kernel_rfl) (by kernel_rfl) (fun _ _ _ h => h) (Or.inl ⟨by rfl, ?_⟩) (by assumption) ?_
                  rotate_left
                  · intro w' hSw
                    go_simp
                    first | done | with_reducible rfl
                  try simp only [Act.put, List.setIfInBounds_toArray, List.set_cons_zero, List.set_cons_succ]
                  refine wpAnyH_take (i := 13) (oi := _) (v := ?_) rfl (by kernel_rfl) (by kernel_rfl) (by kernel_rfl) (fun _ _ _ h => h) (Or.inl ⟨by rfl, ?_⟩) (by assumption) ?_
                  rotate_left
                  · intro w' hSw
                    go_simp
                    first | done | with_reducible rfl
                  try simp only [Act.put, List.setIfInBounds_toArray, List.set_cons_zero, List.set_cons_succ]
                  refine wpAnyH_ready (rs := [14]) (by kernel_rfl) (by simp) ?_
                  refine AllReadyH.cons rfl (fun K hK => ?_) AllReadyH.nil
                  go_simp
                  refine hK.out _ _ ?_ (fun hHeld => ?_)
                  · rfl
                  clear hK K
                  refine wpAnyH_done (by kernel_rfl) ?_ _
                  go_wp2_with fail
                  go_ret
                  exact ⟨rfl, HBW.out.trans (bbv18.mono HBZ.out)⟩
                exact AllReadyH.nil
              exact AllReadyH.nil
            refine AllReadyH.cons rfl (fun K hK => ?_) ?_
            ·
              have M2_v19 := freeze_rd (C := u8s [115, 101, 101, 100]) B2_v15 4
              have chv19 := freeze_chg v15 g2 4
              obtain ⟨v19, hv19⟩ : ∃ W, v15.freeze ⟨g2, 4, none⟩ 1 = W := ⟨_, rfl⟩
              have cm : (convert 22 22 (.slice (some ⟨g2, 0, none⟩) 4 4)).run Try.prog v15 = .ok (.slice (some ⟨g2, 0, none⟩) 4 4) v19 := by rw [← hv19]; exact conv_mark B2_v15 4 4
              rw [hv19] at M2_v19 chv19
              have bbv19 : Below wr.heap.size wr v19 := bbv15.trans (chv19.below (fun i _ e => by subst e; exact ge2) bbv15.size)
              have lt2_v19 : g2 < v19.heap.size := Nat.lt_of_lt_of_le lt2_v15 chv19.size
              have M1_v19 := (M1_v15.chg (Nat.le_refl _) chv19 (fun g' hg' (e : g' = g2) => by simp [blkOf] at hg'; omega)).more chv19.size
              have lt1_v19 : g1 < v19.heap.size := Nat.lt_of_lt_of_le lt1_v15 chv19.size
              clear hv19
              go_simp
              refine hK.out _ _ ?_ (fun hHeld => ?_)
              · exact bbv19
              clear hK K hHeld cm
              refine wpAnyH_ready (rs := [5]) (by kernel_rfl) (by simp) ?_
              refine AllReadyH.cons rfl (fun K hK => ?_) ?_
              ·
                go_simp
                refine (K1.out v19 g1 M1_v19).mono ?_
                rintro e v20 ⟨A5, c5, rfl, O1_v20, xv20⟩
                have bbv20 := bbv19.trans (xv20.mono bbv19.size)
                have chv20 := Chg.of_below xv20 (fun _ => False)
                have lt1_v20 : g1 < v20.heap.size := Nat.lt_of_lt_of_le lt1_v19 chv20.size
                have hA5 : ∀ g', blkOf A5 = some g' → g' ≠ g2 := fun g' hg' => by have hx := (O1_v20.lt hg').1; omega
                have M2_v20 := (M2_v19.chg (Nat.le_refl _) chv20 (fun _ _ h => h)).more chv20.size
                have lt2_v20 : g2 < v20.heap.size := Nat.lt_of_lt_of_le lt2_v19 chv20.size
                go_simp
                refine hK.out _ _ ?_ (fun hHeld => ?_)
                · exact bbv20
                clear hK K hHeld
                have CV : Hid (∀ W' B, Rd W' B A5 (u8s (keyL [115, 101, 101, 100] res)) → (convert 22 9 (.slice A5 4 c5)).run Try.prog W' = .ok (.string sk) W') := Lib.hid fun W' B h => by rw [← HSK.out]; exact run_conv Try.underlying22 Try.underlying5 Try.underlying9 A5 _ 4 c5 B W' h rfl
                refine wpAnyH_imp (S' := fun w' => Below wr.heap.size wr w' ∧ (convert 22 9 (.slice A5 4 c5)).run Try.prog w' = .ok (.string sk) w') (fun w' h => h.1) _ _ _ _ ?_
                have hHeld : Below wr.heap.size wr v20 ∧ (convert 22 9 (.slice A5 4 c5)).run Try.prog v20 = .ok (.string sk) v20 := ⟨bbv20, CV.out _ _ O1_v20.rd⟩
                refine wpAnyH_take (i := 6) (oi := _) (v := ?_) rfl (by kernel_rfl) (by kernel_rfl) (by kernel_rfl) (fun _ _ _ h => h) (Or.inl ⟨by rfl, ?_⟩) (by assumption) ?_
                rotate_left
                · intro w' hSw
                  obtain ⟨_, hcv⟩ := hSw
                  go_simp
                  first | done | with_reducible rfl
                try simp only [Act.put, List.setIfInBounds_toArray, List.set_cons_zero, List.set_cons_succ]
                clear hHeld
                refine wpAnyH_ready (rs := [10]) (by kernel_rfl) (by simp) ?_
                refine AllReadyH.cons rfl (fun K hK => ?_) ?_
                ·
                  go_simp
                  refine (K2.out v20 g2 M2_v20).mono ?_
                  rintro e v21 ⟨A6, c6, rfl, O2_v21, xv21⟩
                  have bbv21 := bbv20.trans (xv21.mono bbv20.size)
                  have chv21 := Chg.of_below xv21 (fun _ => False)
                  have lt2_v21 : g2 < v21.heap.size := Nat.lt_of_lt_of_le lt2_v20 chv21.size
                  have O1_v21 := O1_v20.chg chv21 (fun _ _ h => h)
                  have lt1_v21 : g1 < v21.heap.size := Nat.lt_of_lt_of_le lt1_v20 chv21.size
                  go_simp
                  refine hK.out _ _ ?_ (fun hHeld => ?_)
                  · exact ⟨bbv21, CV.out v21 _ (O1_v21.rd)⟩
                  clear hK K hHeld
                  have hcv2 : (convert 22 9 (.slice A6 4 c6)).run Try.prog v21 = .ok (.string sk) v21 := by rw [← HSK.out]; exact run_conv Try.underlying22 Try.underlying5 Try.underlying9 A6 _ 4 c6 _ _ O2_v21.rd rfl
                  refine wpAnyH_imp (S' := fun w' => w' = v21) (fun w' e => by rw [e]; exact ⟨bbv21, CV.out v21 _ (O1_v21.rd)⟩) _ _ _ _ ?_
                  have hrf : v21 = v21 := rfl
                  refine wpAnyH_take (i := 11) (oi := _) (v := ?_) rfl (by kernel_rfl) (by kernel_rfl) (by kernel_rfl) (fun _ _ _ h => h) (Or.inl ⟨by rfl, ?_⟩) (by assumption) ?_
                  rotate_left
                  · intro w' hSw
                    subst hSw
                    go_simp
                    first | done | with_reducible rfl
                  try simp only [Act.put, List.setIfInBounds_toArray, List.set_cons_zero, List.set_cons_succ]
                  refine wpAnyH_take (i := 12) (oi := _) (v := ?_) rfl (by kernel_rfl) (by kernel_rfl) (by kernel_rfl) (fun _ _ _ h => h) (Or.inl ⟨by rfl, ?_⟩) (by assumption) ?_
                  rotate_left
                  · intro w' hSw
                    go_simp
                    first | done | with_reducible rfl
                  try simp only [Act.put, List.setIfInBounds_toArray, List.set_cons_zero, List.set_cons_succ]
                  refine wpAnyH_take (i := 13) (oi := _) (v := ?_) rfl (by kernel_rfl) (by kernel_rfl) (by kernel_rfl) (fun _ _ _ h => h) (Or.inl ⟨by rfl, ?_⟩) (by assumption) ?_
                  rotate_left
                  · intro w' hSw
                    go_simp
                    first | done | with_reducible rfl
                  try simp only [Act.put, List.setIfInBounds_toArray, List.set_cons_zero, List.set_cons_succ]
                  refine wpAnyH_ready (rs := [14]) (by kernel_rfl) (by simp) ?_
                  refine AllReadyH.cons rfl (fun K hK => ?_) AllReadyH.nil
                  go_simp
                  refine hK.out _ _ ?_ (fun hHeld => ?_)
                  · rfl
                  clear hK K
                  refine wpAnyH_done (by kernel_rfl) ?_ _
                  go_wp2_with fail
                  go_ret
                  exact ⟨rfl, HBW.out.trans (bbv21.mono HBZ.out)⟩
                exact AllReadyH.nil
              exact AllReadyH.nil
            exact AllReadyH.nil
          refine AllReadyH.cons rfl (fun K hK => ?_) ?_
          ·
            have M2_v22 := freeze_rd (C := u8s [115, 101, 101, 100]) B2_v14 4
            have chv22 := freeze_chg v14 g2 4
            obtain ⟨v22, hv22⟩ : ∃ W, v14.freeze ⟨g2, 4, none⟩ 1 = W := ⟨_, rfl⟩
            have cm : (convert 22 22 (.slice (some ⟨g2, 0, none⟩) 4 4)).run Try.prog v14 = .ok (.slice (some ⟨g2, 0, none⟩) 4 4) v22 := by rw [← hv22]; exact conv_mark B2_v14 4 4
            rw [hv22] at M2_v22 chv22
            have bbv22 : Below wr.heap.size wr v22 := bbv14.trans (chv22.below (fun i _ e => by subst e; exact ge2) bbv14.size)
            have lt2_v22 : g2 < v22.heap.size := Nat.lt_of_lt_of_le lt2_v14 chv22.size
            have B1_v22 := B1_v14.chg chv22 (fun (e : g1 = g2) => by omega)
            have lt1_v22 : g1 < v22.heap.size := Nat.lt_of_lt_of_le lt1_v14 chv22.size
            clear hv22
            go_simp
            refine hK.out _ _ ?_ (fun hHeld => ?_)
            · exact bbv22
            clear hK K hHeld cm
            refine wpAnyH_ready (rs := [3]) (by kernel_rfl) (by simp) ?_
            refine AllReadyH.cons rfl (fun K hK => ?_) ?_
            ·
              have M1_v23 := freeze_rd (C := u8s [115, 101, 101, 100]) B1_v22 4
              have chv23 := freeze_chg v22 g1 4
              obtain ⟨v23, hv23⟩ : ∃ W, v22.freeze ⟨g1, 4, none⟩ 1 = W := ⟨_, rfl⟩
              have cm : (convert 22 22 (.slice (some ⟨g1, 0, none⟩) 4 4)).run Try.prog v22 = .ok (.slice (some ⟨g1, 0, none⟩) 4 4) v23 := by rw [← hv23]; exact conv_mark B1_v22 4 4
              rw [hv23] at M1_v23 chv23
              have bbv23 : Below wr.heap.size wr v23 := bbv22.trans (chv23.below (fun i _ e => by subst e; exact ge1) bbv22.size)
              have lt1_v23 : g1 < v23.heap.size := Nat.lt_of_lt_of_le lt1_v22 chv23.size
              have M2_v23 := (M2_v22.chg (Nat.le_refl _) chv23 (fun g' hg' (e : g' = g1) => by simp [blkOf] at hg'; omega)).more chv23.size
              have lt2_v23 : g2 < v23.heap.size := Nat.lt_of_lt_of_le lt2_v22 chv23.size
              clear hv23
              go_simp
              refine hK.out _ _ ?_ (fun hHeld => ?_)
              · exact bbv23
              clear hK K hHeld cm
              refine wpAnyH_ready (rs := [5]) (by kernel_rfl) (by simp) ?_
              refine AllReadyH.cons rfl (fun K hK => ?_) ?_
              ·
                go_simp
                refine (K1.out v23 g1 M1_v23).mono ?_
                rintro e v24 ⟨A5, c5, rfl, O1_v24, xv24⟩
                have bbv24 := bbv23.trans (xv24.mono bbv23.size)
                have chv24 := Chg.of_below xv24 (fun _ => False)
                have lt1_v24 : g1 < v24.heap.size := Nat.lt_of_lt_of_le lt1_v23 chv24.size
                have hA5 : ∀ g', blkOf A5 = some g' → g' ≠ g2 := fun g' hg' => by have hx := (O1_v24.lt hg').1; omega
                have M2_v24 := (M2_v23.chg (Nat.le_refl _) chv24 (fun _ _ h => h)).more chv24.size
                have lt2_v24 : g2 < v24.heap.size := Nat.lt_of_lt_of_le lt2_v23 chv24.size
                go_simp
                refine hK.out _ _ ?_ (fun hHeld => ?_)
                · exact bbv24
                clear hK K hHeld
                have CV : Hid (∀ W' B, Rd W' B A5 (u8s (keyL [115, 101, 101, 100] res)) → (convert 22 9 (.slice A5 4 c5)).run Try.prog W' = .ok (.string sk) W') := Lib.hid fun W' B h => by rw [← HSK.out]; exact run_conv Try.underlying22 Try.underlying5 Try.underlying9 A5 _ 4 c5 B W' h rfl
                refine wpAnyH_imp (S' := fun w' => Below wr.heap.size wr w' ∧ (convert 22 9 (.slice A5 4 c5)).run Try.prog w' = .ok (.string sk) w') (fun w' h => h.1) _ _ _ _ ?_
                have hHeld : Below wr.heap.size wr v24 ∧ (convert 22 9 (.slice A5 4 c5)).run Try.prog v24 = .ok (.string sk) v24 := ⟨bbv24, CV.out _ _ O1_v24.rd⟩
                refine wpAnyH_take (i := 6) (oi := _) (v := ?_) rfl (by kernel_rfl) (by kernel_rfl) (by kernel_rfl) (fun _ _ _ h => h) (Or.inl ⟨by rfl, ?_⟩) (by assumption) ?_
                rotate_left
                · intro w' hSw
                  obtain ⟨_, hcv⟩ := hSw
                  go_simp
                  first | done | with_reducible rfl
                try simp only [Act.put, List.setIfInBounds_toArray, List.set_cons_zero, List.set_cons_succ]
                clear hHeld
                refine wpAnyH_ready (rs := [10]) (by kernel_rfl) (by simp) ?_
                refine AllReadyH.cons rfl (fun K hK => ?_) ?_
                ·
                  go_simp
                  refine (K2.out v24 g2 M2_v24).mono ?_
                  rintro e v25 ⟨A6, c6, rfl, O2_v25, xv25⟩
                  have bbv25 := bbv24.trans (xv25.mono bbv24.size)
                  have chv25 := Chg.of_below xv25 (fun _ => False)
                  have lt2_v25 : g2 < v25.heap.size := Nat.lt_of_lt_of_le lt2_v24 chv25.size
                  have O1_v25 := O1_v24.chg chv25 (fun _ _ h => h)
                  have lt1_v25 : g1 < v25.heap.size := Nat.lt_of_lt_of_le lt1_v24 chv25.size
                  go_simp
                  refine hK.out _ _ ?_ (fun hHeld => ?_)
                  · exact ⟨bbv25, CV.out v25 _ (O1_v25.rd)⟩
                  clear hK K hHeld
                  have hcv2 : (convert 22 9 (.slice A6 4 c6)).run Try.prog v25 = .ok (.string sk) v25 := by rw [← HSK.out]; exact run_conv Try.underlying22 Try.underlying5 Try.underlying9 A6 _ 4 c6 _ _ O2_v25.rd rfl
                  refine wpAnyH_imp (S' := fun w' => w' = v25) (fun w' e => by rw [e]; exact ⟨bbv25, CV.out v25 _ (O1_v25.rd)⟩) _ _ _ _ ?_
                  have hrf : v25 = v25 := rfl
                  refine wpAnyH_take (i := 11) (oi := _) (v := ?_) rfl (by kernel_rfl) (by kernel_rfl) (by kernel_rfl) (fun _ _ _ h => h) (Or.inl ⟨by rfl, ?_⟩) (by assumption) ?_
                  rotate_left
                  · intro w' hSw
                    subst hSw
                    go_simp
                    first | done | with_reducible rfl
                  try simp only [Act.put, List.setIfInBounds_toArray, List.set_cons_zero, List.set_cons_succ]
                  refine wpAnyH_take (i := 12) (oi := _) (v := ?_) rfl (by kernel_rfl) (by kernel_rfl) (by kernel_rfl) (fun _ _ _ h => h) (Or.inl ⟨by rfl, ?_⟩) (by assumption) ?_
                  rotate_left
                  · intro w' hSw
                    go_simp
                    first | done | with_reducible rfl
                  try simp only [Act.put, List.setIfInBounds_toArray, List.set_cons_zero, List.set_cons_succ]
                  refine wpAnyH_take (i := 13) (oi := _) (v := ?_) rfl (by kernel_rfl) (by kernel_rfl) (by kernel_rfl) (fun _ _ _ h => h) (Or.inl ⟨by rfl, ?_⟩) (by assumption) ?_
                  rotate_left
                  · intro w' hSw
                    go_simp
                    first | done | with_reducible rfl
                  try simp only [Act.put, List.setIfInBounds_toArray, List.set_cons_zero, List.set_cons_succ]
                  refine wpAnyH_ready (rs := [14]) (by kernel_rfl) (by simp) ?_
                  refine AllReadyH.cons rfl (fun K hK => ?_) AllReadyH.nil
                  go_simp
                  refine hK.out _ _ ?_ (fun hHeld => ?_)
                  · rfl
                  clear hK K
                  refine wpAnyH_done (by kernel_rfl) ?_ _
                  go_wp2_with fail
                  go_ret
                  exact ⟨rfl, HBW.out.trans (bbv25.mono HBZ.out)⟩
                exact AllReadyH.nil
              exact AllReadyH.nil
            exact AllReadyH.nil
          exact AllReadyH.nil
        exact AllReadyH.nil
      refine AllReadyH.cons rfl (fun K hK => ?_) ?_
      ·
        go_simp
        obtain ⟨v26, hv26⟩ : ∃ W, w0.alloc (.cells #[.int .u8 115, .int .u8 101, .int .u8 101, .int .u8 100] 5) = W := ⟨_, rfl⟩
        obtain ⟨g2, hg2⟩ : ∃ g, w0.heap.size = g := ⟨_, rfl⟩
        have B2_v26 : Blk v26 g2 5 #[.int .u8 115, .int .u8 101, .int .u8 101, .int .u8 100] := by rw [← hv26, ← hg2]; exact Blk.new _ _ _
        have xv26 : Below w0.heap.size w0 v26 := by rw [← hv26]; exact bl1 _ _
        have bbv26 := bbw0.trans (xv26.mono bbw0.size)
        have chv26 := Chg.of_below xv26 (fun _ => False)
        have lt2_v26 : g2 < v26.heap.size := B2_v26.lt
        have ge2 : wr.heap.size ≤ g2 := by rw [← hg2]; exact bbw0.size
        refine hK.out _ _ ?_ (fun hHeld => ?_)
        · exact hv26 ▸ bbv26
        rw [hv26]
        rw [hg2]
        clear hK K hHeld hv26 hg2
        refine wpAnyH_ready (rs := [2, 8]) (by kernel_rfl) (by simp) ?_
        refine AllReadyH.cons rfl (fun K hK => ?_) ?_
        ·
          go_simp
          obtain ⟨v27, hv27⟩ : ∃ W, v26.alloc (.cells #[.int .u8 115, .int .u8 101, .int .u8 101, .int .u8 100] 5) = W := ⟨_, rfl⟩
          obtain ⟨g1, hg1⟩ : ∃ g, v26.heap.size = g := ⟨_, rfl⟩
          have B1_v27 : Blk v27 g1 5 #[.int .u8 115, .int .u8 101, .int .u8 101, .int .u8 100] := by rw [← hv27, ← hg1]; exact Blk.new _ _ _
          have xv27 : Below v26.heap.size v26 v27 := by rw [← hv27]; exact bl1 _ _
          have bbv27 := bbv26.trans (xv27.mono bbv26.size)
          have chv27 := Chg.of_below xv27 (fun _ => False)
          have lt1_v27 : g1 < v27.heap.size := B1_v27.lt
          have ge1 : wr.heap.size ≤ g1 := by rw [← hg1]; exact bbv26.size
          have hne12 : g1 ≠ g2 := by omega
          have B2_v27 := B2_v26.chg chv27 (fun h => h)
          have lt2_v27 : g2 < v27.heap.size := Nat.lt_of_lt_of_le lt2_v26 chv27.size
          refine hK.out _ _ ?_ (fun hHeld => ?_)
          · exact hv27 ▸ bbv27
          rw [hv27]
          rw [hg1]
          clear hK K hHeld hv27 hg1
          refine wpAnyH_ready (rs := [3, 8]) (by kernel_rfl) (by simp) ?_
          refine AllReadyH.cons rfl (fun K hK => ?_) ?_
          ·
            have M1_v28 := freeze_rd (C := u8s [115, 101, 101, 100]) B1_v27 4
            have chv28 := freeze_chg v27 g1 4
            obtain ⟨v28, hv28⟩ : ∃ W, v27.freeze ⟨g1, 4, none⟩ 1 = W := ⟨_, rfl⟩
            have cm : (convert 22 22 (.slice (some ⟨g1, 0, none⟩) 4 4)).run Try.prog v27 = .ok (.slice (some ⟨g1, 0, none⟩) 4 4) v28 := by rw [← hv28]; exact conv_mark B1_v27 4 4
            rw [hv28] at M1_v28 chv28
            have bbv28 : Below wr.heap.size wr v28 := bbv27.trans (chv28.below (fun i _ e => by subst e; exact ge1) bbv27.size)
            have lt1_v28 : g1 < v28.heap.size := Nat.lt_of_lt_of_le lt1_v27 chv28.size
            have B2_v28 := B2_v27.chg chv28 (fun (e : g2 = g1) => by omega)
            have lt2_v28 : g2 < v28.heap.size := Nat.lt_of_lt_of_le lt2_v27 chv28.size
            clear hv28
            go_simp
            refine hK.out _ _ ?_ (fun hHeld => ?_)
            · exact bbv28
            clear hK K hHeld cm
            refine wpAnyH_ready (rs := [5, 8]) (by kernel_rfl) (by simp) ?_
            refine AllReadyH.cons rfl (fun K hK => ?_) ?_
            ·
              go_simp
              refine (K1.out v28 g1 M1_v28).mono ?_
              rintro e v29 ⟨A5, c5, rfl, O1_v29, xv29⟩
              have bbv29 := bbv28.trans (xv29.mono bbv28.size)
              have chv29 := Chg.of_below xv29 (fun _ => False)
              have lt1_v29 : g1 < v29.heap.size := Nat.lt_of_lt_of_le lt1_v28 chv29.size
              have hA5 : ∀ g', blkOf A5 = some g' → g' ≠ g2 := fun g' hg' => by have hx := (O1_v29.lt hg').1; omega
              have B2_v29 := B2_v28.chg chv29 (fun h => h)
              have lt2_v29 : g2 < v29.heap.size := Nat.lt_of_lt_of_le lt2_v28 chv29.size
              go_simp
              refine hK.out _ _ ?_ (fun hHeld => ?_)
              · exact bbv29
              clear hK K hHeld
              have CV : Hid (∀ W' B, Rd W' B A5 (u8s (keyL [115, 101, 101, 100] res)) → (convert 22 9 (.slice A5 4 c5)).run Try.prog W' = .ok (.string sk) W') := Lib.hid fun W' B h => by rw [← HSK.out]; exact run_conv Try.underlying22 Try.underlying5 Try.underlying9 A5 _ 4 c5 B W' h rfl
              refine wpAnyH_imp (S' := fun w' => Below wr.heap.size wr w' ∧ (convert 22 9 (.slice A5 4 c5)).run Try.prog w' = .ok (.string sk) w') (fun w' h => h.1) _ _ _ _ ?_
              have hHeld : Below wr.heap.size wr v29 ∧ (convert 22 9 (.slice A5 4 c5)).run Try.prog v29 = .ok (.string sk) v29 := ⟨bbv29, CV.out _ _ O1_v29.rd⟩
              refine wpAnyH_take (i := 6) (oi := _) (v := ?_) rfl (by kernel_rfl) (by kernel_rfl) (by kernel_rfl) (fun _ _ _ h => h) (Or.inl ⟨by rfl, ?_⟩) (by assumption) ?_
              rotate_left
              · intro w' hSw
                obtain ⟨_, hcv⟩ := hSw
                go_simp
                first | done | with_reducible rfl
              try simp only [Act.put, List.setIfInBounds_toArray, List.set_cons_zero, List.set_cons_succ]
              clear hHeld
              refine wpAnyH_ready (rs := [8]) (by kernel_rfl) (by simp) ?_
              refine AllReadyH.cons rfl (fun K hK => ?_) ?_
              ·
                have M2_v30 := freeze_rd (C := u8s [115, 101, 101, 100]) B2_v29 4
                have chv30 := freeze_chg v29 g2 4
                obtain ⟨v30, hv30⟩ : ∃ W, v29.freeze ⟨g2, 4, none⟩ 1 = W := ⟨_, rfl⟩
                have cm : (convert 22 22 (.slice (some ⟨g2, 0, none⟩) 4 4)).run Try.prog v29 = .ok (.slice (some ⟨g2, 0, none⟩) 4 4) v30 := by rw [← hv30]; exact conv_mark B2_v29 4 4
                rw [hv30] at M2_v30 chv30
                have bbv30 : Below wr.heap.size wr v30 := bbv29.trans (chv30.below (fun i _ e => by subst e; exact ge2) bbv29.size)
                have lt2_v30 : g2 < v30.heap.size := Nat.lt_of_lt_of_le lt2_v29 chv30.size
                have O1_v30 := O1_v29.chg chv30 (fun g' hg' (e : g' = g2) => by have hx := hA5 g' hg'; omega)
                have lt1_v30 : g1 < v30.heap.size := Nat.lt_of_lt_of_le lt1_v29 chv30.size
                clear hv30
                go_simp
                refine hK.out _ _ ?_ (fun hHeld => ?_)
                · exact ⟨bbv30, CV.out v30 _ (O1_v30.rd)⟩
                clear hK K hHeld cm
                refine wpAnyH_ready (rs := [10]) (by kernel_rfl) (by simp) ?_
                refine AllReadyH.cons rfl (fun K hK => ?_) ?_
                ·
                  go_simp
                  refine (K2.out v30 g2 M2_v30).mono ?_
                  rintro e v31 ⟨A6, c6, rfl, O2_v31, xv31⟩
                  have bbv31 := bbv30.trans (xv31.mono bbv30.size)
                  have chv31 := Chg.of_below xv31 (fun _ => False)
                  have lt2_v31 : g2 < v31.heap.size := Nat.lt_of_lt_of_le lt2_v30 chv31.size
                  have O1_v31 := O1_v30.chg chv31 (fun _ _ h => h)
                  have lt1_v31 : g1 < v31.heap.size := Nat.lt_of_lt_of_le lt1_v30 chv31.size
                  go_simp
                  refine hK.out _ _ ?_ (fun hHeld => ?_)
                  · exact ⟨bbv31, CV.out v31 _ (O1_v31.rd)⟩
                  clear hK K hHeld
                  have hcv2 : (convert 22 9 (.slice A6 4 c6)).run Try.prog v31 = .ok (.string sk) v31 := by rw [← HSK.out]; exact run_conv Try.underlying22 Try.underlying5 Try.underlying9 A6 _ 4 c6 _ _ O2_v31.rd rfl
                  refine wpAnyH_imp (S' := fun w' => w' = v31) (fun w' e => by rw [e]; exact ⟨bbv31, CV.out v31 _ (O1_v31.rd)⟩) _ _ _ _ ?_
                  have hrf : v31 = v31 := rfl
                  refine wpAnyH_take (i := 11) (oi := _) (v := ?_) rfl (by kernel_rfl) (by kernel_rfl) (by kernel_rfl) (fun _ _ _ h => h) (Or.inl ⟨by rfl, ?_⟩) (by assumption) ?_
                  rotate_left
                  · intro w' hSw
                    subst hSw
                    go_simp
                    first | done | with_reducible rfl
                  try simp only [Act.put, List.setIfInBounds_toArray, List.set_cons_zero, List.set_cons_succ]
                  refine wpAnyH_take (i := 12) (oi := _) (v := ?_) rfl (by kernel_rfl) (by kernel_rfl) (by kernel_rfl) (fun _ _ _ h => h) (Or.inl ⟨by rfl, ?_⟩) (by assumption) ?_
                  rotate_left
                  · intro w' hSw
                    go_simp
                    first | done | with_reducible rfl
                  try simp only [Act.put, List.setIfInBounds_toArray, List.set_cons_zero, List.set_cons_succ]
                  refine wpAnyH_take (i := 13) (oi := _) (v := ?_) rfl (by kernel_rfl) (by kernel_rfl) (by kernel_rfl) (fun _ _ _ h => h) (Or.inl ⟨by rfl, ?_⟩) (by assumption) ?_
                  rotate_left
                  · intro w' hSw
                    go_simp
                    first | done | with_reducible rfl
                  try simp only [Act.put, List.setIfInBounds_toArray, List.set_cons_zero, List.set_cons_succ]
                  refine wpAnyH_ready (rs := [14]) (by kernel_rfl) (by simp) ?_
                  refine AllReadyH.cons rfl (fun K hK => ?_) AllReadyH.nil
                  go_simp
                  refine hK.out _ _ ?_ (fun hHeld => ?_)
                  · rfl
                  clear hK K
                  refine wpAnyH_done (by kernel_rfl) ?_ _
                  go_wp2_with fail
                  go_ret
                  exact ⟨rfl, HBW.out.trans (bbv31.mono HBZ.out)⟩
                exact AllReadyH.nil
              exact AllReadyH.nil
            refine AllReadyH.cons rfl (fun K hK => ?_) ?_
            ·
              have M2_v32 := freeze_rd (C := u8s [115, 101, 101, 100]) B2_v28 4
              have chv32 := freeze_chg v28 g2 4
              obtain ⟨v32, hv32⟩ : ∃ W, v28.freeze ⟨g2, 4, none⟩ 1 = W := ⟨_, rfl⟩
              have cm : (convert 22 22 (.slice (some ⟨g2, 0, none⟩) 4 4)).run Try.prog v28 = .ok (.slice (some ⟨g2, 0, none⟩) 4 4) v32 := by rw [← hv32]; exact conv_mark B2_v28 4 4
              rw [hv32] at M2_v32 chv32
              have bbv32 : Below wr.heap.size wr v32 := bbv28.trans (chv32.below (fun i _ e => by subst e; exact ge2) bbv28.size)
              have lt2_v32 : g2 < v32.heap.size := Nat.lt_of_lt_of_le lt2_v28 chv32.size
              have M1_v32 := (M1_v28.chg (Nat.le_refl _) chv32 (fun g' hg' (e : g' = g2) => by simp [blkOf] at hg'; omega)).more chv32.size
              have lt1_v32 : g1 < v32.heap.size := Nat.lt_of_lt_of_le lt1_v28 chv32.size
              clear hv32
              go_simp
              refine hK.out _ _ ?_ (fun hHeld => ?_)
              · exact bbv32
              clear hK K hHeld cm
              refine wpAnyH_ready (rs := [5]) (by kernel_rfl) (by simp) ?_
              refine AllReadyH.cons rfl (fun K hK => ?_) ?_
              ·
                go_simp
                refine (K1.out v32 g1 M1_v32).mono ?_
                rintro e v33 ⟨A5, c5, rfl, O1_v33, xv33⟩
                have bbv33 := bbv32.trans (xv33.mono bbv32.size)
                have chv33 := Chg.of_below xv33 (fun _ => False)
                have lt1_v33 : g1 < v33.heap.size := Nat.lt_of_lt_of_le lt1_v32 chv33.size
                have hA5 : ∀ g', blkOf A5 = some g' → g' ≠ g2 := fun g' hg' => by have hx := (O1_v33.lt hg').1; omega
                have M2_v33 := (M2_v32.chg (Nat.le_refl _) chv33 (fun _ _ h => h)).more chv33.size
                have lt2_v33 : g2 < v33.heap.size := Nat.lt_of_lt_of_le lt2_v32 chv33.size
                go_simp
                refine hK.out _ _ ?_ (fun hHeld => ?_)
                · exact bbv33
                clear hK K hHeld
                have CV : Hid (∀ W' B, Rd W' B A5 (u8s (keyL [115, 101, 101, 100] res)) → (convert 22 9 (.slice A5 4 c5)).run Try.prog W' = .ok (.string sk) W') := Lib.hid fun W' B h => by rw [← HSK.out]; exact run_conv Try.underlying22 Try.underlying5 Try.underlying9 A5 _ 4 c5 B W' h rfl
                refine wpAnyH_imp (S' := fun w' => Below wr.heap.size wr w' ∧ (convert 22 9 (.slice A5 4 c5)).run Try.prog w' = .ok (.string sk) w') (fun w' h => h.1) _ _ _ _ ?_
                have hHeld : Below wr.heap.size wr v33 ∧ (convert 22 9 (.slice A5 4 c5)).run Try.prog v33 = .ok (.string sk) v33 := ⟨bbv33, CV.out _ _ O1_v33.rd⟩
                refine wpAnyH_take (i := 6) (oi := _) (v := ?_) rfl (by kernel_rfl) (by kernel_rfl) (by kernel_rfl) (fun _ _ _ h => h) (Or.inl ⟨by rfl, ?_⟩) (by assumption) ?_
                rotate_left
                · intro w' hSw
                  obtain ⟨_, hcv⟩ := hSw
                  go_simp
                  first | done | with_reducible rfl
                try simp only [Act.put, List.setIfInBounds_toArray, List.set_cons_zero, List.set_cons_succ]
                clear hHeld
                refine wpAnyH_ready (rs := [10]) (by kernel_rfl) (by simp) ?_
                refine AllReadyH.cons rfl (fun K hK => ?_) ?_
                ·
                  go_simp
                  refine (K2.out v33 g2 M2_v33).mono ?_
                  rintro e v34 ⟨A6, c6, rfl, O2_v34, xv34⟩
                  have bbv34 := bbv33.trans (xv34.mono bbv33.size)
                  have chv34 := Chg.of_below xv34 (fun _ => False)
                  have lt2_v34 : g2 < v34.heap.size := Nat.lt_of_lt_of_le lt2_v33 chv34.size
                  have O1_v34 := O1_v33.chg chv34 (fun _ _ h => h)
                  have lt1_v34 : g1 < v34.heap.size := Nat.lt_of_lt_of_le lt1_v33 chv34.size
                  go_simp
                  refine hK.out _ _ ?_ (fun hHeld => ?_)
                  · exact ⟨bbv34, CV.out v34 _ (O1_v34.rd)⟩
                  clear hK K hHeld
                  have hcv2 : (convert 22 9 (.slice A6 4 c6)).run Try.prog v34 = .ok (.string sk) v34 := by rw [← HSK.out]; exact run_conv Try.underlying22 Try.underlying5 Try.underlying9 A6 _ 4 c6 _ _ O2_v34.rd rfl
                  refine wpAnyH_imp (S' := fun w' => w' = v34) (fun w' e => by rw [e]; exact ⟨bbv34, CV.out v34 _ (O1_v34.rd)⟩) _ _ _ _ ?_
                  have hrf : v34 = v34 := rfl
                  refine wpAnyH_take (i := 11) (oi := _) (v := ?_) rfl (by kernel_rfl) (by kernel_rfl) (by kernel_rfl) (fun _ _ _ h => h) (Or.inl ⟨by rfl, ?_⟩) (by assumption) ?_
                  rotate_left
                  · intro w' hSw
                    subst hSw
                    go_simp
                    first | done | with_reducible rfl
                  try simp only [Act.put, List.setIfInBounds_toArray, List.set_cons_zero, List.set_cons_succ]
                  refine wpAnyH_take (i := 12) (oi := _) (v := ?_) rfl (by kernel_rfl) (by kernel_rfl) (by kernel_rfl) (fun _ _ _ h => h) (Or.inl ⟨by rfl, ?_⟩) (by assumption) ?_
                  rotate_left
                  · intro w' hSw
                    go_simp
                    first | done | with_reducible rfl
                  try simp only [Act.put, List.setIfInBounds_toArray, List.set_cons_zero, List.set_cons_succ]
                  refine wpAnyH_take (i := 13) (oi := _) (v := ?_) rfl (by kernel_rfl) (by kernel_rfl) (by kernel_rfl) (fun _ _ _ h => h) (Or.inl ⟨by rfl, ?_⟩) (by assumption) ?_
                  rotate_left
                  · intro w' hSw
                    go_simp
                    first | done | with_reducible rfl
                  try simp only [Act.put, List.setIfInBounds_toArray, List.set_cons_zero, List.set_cons_succ]
                  refine wpAnyH_ready (rs := [14]) (by kernel_rfl) (by simp) ?_
                  refine AllReadyH.cons rfl (fun K hK => ?_) AllReadyH.nil
                  go_simp
                  refine hK.out _ _ ?_ (fun hHeld => ?_)
                  · rfl
                  clear hK K
                  refine wpAnyH_done (by kernel_rfl) ?_ _
                  go_wp2_with fail
                  go_ret
                  exact ⟨rfl, HBW.out.trans (bbv34.mono HBZ.out)⟩
                exact AllReadyH.nil
              exact AllReadyH.nil
            exact AllReadyH.nil
          refine AllReadyH.cons rfl (fun K hK => ?_) ?_
          ·
            have M2_v35 := freeze_rd (C := u8s [115, 101, 101, 100]) B2_v27 4
            have chv35 := freeze_chg v27 g2 4
            obtain ⟨v35, hv35⟩ : ∃ W, v27.freeze ⟨g2, 4, none⟩ 1 = W := ⟨_, rfl⟩
            have cm : (convert 22 22 (.slice (some ⟨g2, 0, none⟩) 4 4)).run Try.prog v27 = .ok (.slice (some ⟨g2, 0, none⟩) 4 4) v35 := by rw [← hv35]; exact conv_mark B2_v27 4 4
            rw [hv35] at M2_v35 chv35
            have bbv35 : Below wr.heap.size wr v35 := bbv27.trans (chv35.below (fun i _ e => by subst e; exact ge2) bbv27.size)
            have lt2_v35 : g2 < v35.heap.size := Nat.lt_of_lt_of_le lt2_v27 chv35.size
            have B1_v35 := B1_v27.chg chv35 (fun (e : g1 = g2) => by omega)
            have lt1_v35 : g1 < v35.heap.size := Nat.lt_of_lt_of_le lt1_v27 chv35.size
            clear hv35
            go_simp
            refine hK.out _ _ ?_ (fun hHeld => ?_)
            · exact bbv35
            clear hK K hHeld cm
            refine wpAnyH_ready (rs := [3]) (by kernel_rfl) (by simp) ?_
            refine AllReadyH.cons rfl (fun K hK => ?_) ?_
            ·
              have M1_v36 := freeze_rd (C := u8s [115, 101, 101, 100]) B1_v35 4
              have chv36 := freeze_chg v35 g1 4
              obtain ⟨v36, hv36⟩ : ∃ W, v35.freeze ⟨g1, 4, none⟩ 1 = W := ⟨_, rfl⟩
              have cm : (convert 22 22 (.slice (some ⟨g1, 0, none⟩) 4 4)).run Try.prog v35 = .ok (.slice (some ⟨g1, 0, none⟩) 4 4) v36 := by rw [← hv36]; exact conv_mark B1_v35 4 4
              rw [hv36] at M1_v36 chv36
              have bbv36 : Below wr.heap.size wr v36 := bbv35.trans (chv36.below (fun i _ e => by subst e; exact ge1) bbv35.size)
              have lt1_v36 : g1 < v36.heap.size := Nat.lt_of_lt_of_le lt1_v35 chv36.size
              have M2_v36 := (M2_v35.chg (Nat.le_refl _) chv36 (fun g' hg' (e : g' = g1) => by simp [blkOf] at hg'; omega)).more chv36.size
              have lt2_v36 : g2 < v36.heap.size := Nat.lt_of_lt_of_le lt2_v35 chv36.size
              clear hv36
              go_simp
              refine hK.out _ _ ?_ (fun hHeld => ?_)
              · exact bbv36
              clear hK K hHeld cm
              refine wpAnyH_ready (rs := [5]) (by kernel_rfl) (by simp) ?_
              refine AllReadyH.cons rfl (fun K hK => ?_) ?_
              ·
                go_simp
                refine (K1.out v36 g1 M1_v36).mono ?_
                rintro e v37 ⟨A5, c5, rfl, O1_v37, xv37⟩
                have bbv37 := bbv36.trans (xv37.mono bbv36.size)
                have chv37 := Chg.of_below xv37 (fun _ => False)
                have lt1_v37 : g1 < v37.heap.size := Nat.lt_of_lt_of_le lt1_v36 chv37.size
                have hA5 : ∀ g', blkOf A5 = some g' → g' ≠ g2 := fun g' hg' => by have hx := (O1_v37.lt hg').1; omega
                have M2_v37 := (M2_v36.chg (Nat.le_refl _) chv37 (fun _ _ h => h)).more chv37.size
                have lt2_v37 : g2 < v37.heap.size := Nat.lt_of_lt_of_le lt2_v36 chv37.size
                go_simp
                refine hK.out _ _ ?_ (fun hHeld => ?_)
                · exact bbv37
                clear hK K hHeld
                have CV : Hid (∀ W' B, Rd W' B A5 (u8s (keyL [115, 101, 101, 100] res)) → (convert 22 9 (.slice A5 4 c5)).run Try.prog W' = .ok (.string sk) W') := Lib.hid fun W' B h => by rw [← HSK.out]; exact run_conv Try.underlying22 Try.underlying5 Try.underlying9 A5 _ 4 c5 B W' h rfl
                refine wpAnyH_imp (S' := fun w' => Below wr.heap.size wr w' ∧ (convert 22 9 (.slice A5 4 c5)).run Try.prog w' = .ok (.string sk) w') (fun w' h => h.1) _ _ _ _ ?_
                have hHeld : Below wr.heap.size wr v37 ∧ (convert 22 9 (.slice A5 4 c5)).run Try.prog v37 = .ok (.string sk) v37 := ⟨bbv37, CV.out _ _ O1_v37.rd⟩
                refine wpAnyH_take (i := 6) (oi := _) (v := ?_) rfl (by kernel_rfl) (by kernel_rfl) (by kernel_rfl) (fun _ _ _ h => h) (Or.inl ⟨by rfl, ?_⟩) (by assumption) ?_
                rotate_left
                · intro w' hSw
                  obtain ⟨_, hcv⟩ := hSw
                  go_simp
                  first | done | with_reducible rfl
                try simp only [Act.put, List.setIfInBounds_toArray, List.set_cons_zero, List.set_cons_succ]
                clear hHeld
                refine wpAnyH_ready (rs := [10]) (by kernel_rfl) (by simp) ?_
                refine AllReadyH.cons rfl (fun K hK => ?_) ?_
                ·
                  go_simp
                  refine (K2.out v37 g2 M2_v37).mono ?_
                  rintro e v38 ⟨A6, c6, rfl, O2_v38, xv38⟩
                  have bbv38 := bbv37.trans (xv38.mono bbv37.size)
                  have chv38 := Chg.of_below xv38 (fun _ => False)
                  have lt2_v38 : g2 < v38.heap.size := Nat.lt_of_lt_of_le lt2_v37 chv38.size
                  have O1_v38 := O1_v37.chg chv38 (fun _ _ h => h)
                  have lt1_v38 : g1 < v38.heap.size := Nat.lt_of_lt_of_le lt1_v37 chv38.size
                  go_simp
                  refine hK.out _ _ ?_ (fun hHeld => ?_)
                  · exact ⟨bbv38, CV.out v38 _ (O1_v38.rd)⟩
                  clear hK K hHeld
                  have hcv2 : (convert 22 9 (.slice A6 4 c6)).run Try.prog v38 = .ok (.string sk) v38 := by rw [← HSK.out]; exact run_conv Try.underlying22 Try.underlying5 Try.underlying9 A6 _ 4 c6 _ _ O2_v38.rd rfl
                  refine wpAnyH_imp (S' := fun w' => w' = v38) (fun w' e => by rw [e]; exact ⟨bbv38, CV.out v38 _ (O1_v38.rd)⟩) _ _ _ _ ?_
                  have hrf : v38 = v38 := rfl
                  refine wpAnyH_take (i := 11) (oi := _) (v := ?_) rfl (by kernel_rfl) (by kernel_rfl) (by kernel_rfl) (fun _ _ _ h => h) (Or.inl ⟨by rfl, ?_⟩) (by assumption) ?_
                  rotate_left
                  · intro w' hSw
                    subst hSw
                    go_simp
                    first | done | with_reducible rfl
                  try simp only [Act.put, List.setIfInBounds_toArray, List.set_cons_zero, List.set_cons_succ]
                  refine wpAnyH_take (i := 12) (oi := _) (v := ?_) rfl (by kernel_rfl) (by kernel_rfl) (by kernel_rfl) (fun _ _ _ h => h) (Or.inl ⟨by rfl, ?_⟩) (by assumption) ?_
                  rotate_left
                  · intro w' hSw
                    go_simp
                    first | done | with_reducible rfl
                  try simp only [Act.put, List.setIfInBounds_toArray, List.set_cons_zero, List.set_cons_succ]
                  refine wpAnyH_take (i := 13) (oi := _) (v := ?_) rfl (by kernel_rfl) (by kernel_rfl) (by kernel_rfl) (fun _ _ _ h => h) (Or.inl ⟨by rfl, ?_⟩) (by assumption) ?_
                  rotate_left
                  · intro w' hSw
                    go_simp
                    first | done | with_reducible rfl
                  try simp only [Act.put, List.setIfInBounds_toArray, List.set_cons_zero, List.set_cons_succ]
                  refine wpAnyH_ready (rs := [14]) (by kernel_rfl) (by simp) ?_
                  refine AllReadyH.cons rfl (fun K hK => ?_) AllReadyH.nil
                  go_simp
                  refine hK.out _ _ ?_ (fun hHeld => ?_)
                  · rfl
                  clear hK K
                  refine wpAnyH_done (by kernel_rfl) ?_ _
                  go_wp2_with fail
                  go_ret
                  exact ⟨rfl, HBW.out.trans (bbv38.mono HBZ.out)⟩
                exact AllReadyH.nil
              exact AllReadyH.nil
            exact AllReadyH.nil
          exact AllReadyH.nil
        refine AllReadyH.cons rfl (fun K hK => ?_) ?_
        ·
          have M2_v39 := freeze_rd (C := u8s [115, 101, 101, 100]) B2_v26 4
          have chv39 := freeze_chg v26 g2 4
          obtain ⟨v39, hv39⟩ : ∃ W, v26.freeze ⟨g2, 4, none⟩ 1 = W := ⟨_, rfl⟩
          have cm : (convert 22 22 (.slice (some ⟨g2, 0, none⟩) 4 4)).run Try.prog v26 = .ok (.slice (some ⟨g2, 0, none⟩) 4 4) v39 := by rw [← hv39]; exact conv_mark B2_v26 4 4
          rw [hv39] at M2_v39 chv39
          have bbv39 : Below wr.heap.size wr v39 := bbv26.trans (chv39.below (fun i _ e => by subst e; exact ge2) bbv26.size)
          have lt2_v39 : g2 < v39.heap.size := Nat.lt_of_lt_of_le lt2_v26 chv39.size
          clear hv39
          go_simp
          refine hK.out _ _ ?_ (fun hHeld => ?_)
          · exact bbv39
          clear hK K hHeld cm
          refine wpAnyH_ready (rs := [2]) (by kernel_rfl) (by simp) ?_
          refine AllReadyH.cons rfl (fun K hK => ?_) ?_
          ·
            go_simp
            obtain ⟨v40, hv40⟩ : ∃ W, v39.alloc (.cells #[.int .u8 115, .int .u8 101, .int .u8 101, .int .u8 100] 5) = W := ⟨_, rfl⟩
            obtain ⟨g1, hg1⟩ : ∃ g, v39.heap.size = g := ⟨_, rfl⟩
            have B1_v40 : Blk v40 g1 5 #[.int .u8 115, .int .u8 101, .int .u8 101, .int .u8 100] := by rw [← hv40, ← hg1]; exact Blk.new _ _ _
            have xv40 : Below v39.heap.size v39 v40 := by rw [← hv40]; exact bl1 _ _
            have bbv40 := bbv39.trans (xv40.mono bbv39.size)
            have chv40 := Chg.of_below xv40 (fun _ => False)
            have lt1_v40 : g1 < v40.heap.size := B1_v40.lt
            have ge1 : wr.heap.size ≤ g1 := by rw [← hg1]; exact bbv39.size
            have hne12 : g1 ≠ g2 := by omega
            have M2_v40 := (M2_v39.chg (Nat.le_refl _) chv40 (fun _ _ h => h)).more chv40.size
            have lt2_v40 : g2 < v40.heap.size := Nat.lt_of_lt_of_le lt2_v39 chv40.size
            refine hK.out _ _ ?_ (fun hHeld => ?_)
            · exact hv40 ▸ bbv40
            rw [hv40]
            rw [hg1]
            clear hK K hHeld hv40 hg1
            refine wpAnyH_ready (rs := [3]) (by kernel_rfl) (by simp) ?_
            refine AllReadyH.cons rfl (fun K hK => ?_) ?_
            ·
              have M1_v41 := freeze_rd (C := u8s [115, 101, 101, 100]) B1_v40 4
              have chv41 := freeze_chg v40 g1 4
              obtain ⟨v41, hv41⟩ : ∃ W, v40.freeze ⟨g1, 4, none⟩ 1 = W := ⟨_, rfl⟩
              have cm : (convert 22 22 (.slice (some ⟨g1, 0, none⟩) 4 4)).run Try.prog v40 = .ok (.slice (some ⟨g1, 0, none⟩) 4 4) v41 := by rw [← hv41]; exact conv_mark B1_v40 4 4
              rw [hv41] at M1_v41 chv41
              have bbv41 : Below wr.heap.size wr v41 := bbv40.trans (chv41.below (fun i _ e => by subst e; exact ge1) bbv40.size)
              have lt1_v41 : g1 < v41.heap.size := Nat.lt_of_lt_of_le lt1_v40 chv41.size
              have M2_v41 := (M2_v40.chg (Nat.le_refl _) chv41 (fun g' hg' (e : g' = g1) => by simp [blkOf] at hg'; omega)).more chv41.size
              have lt2_v41 : g2 < v41.heap.size := Nat.lt_of_lt_of_le lt2_v40 chv41.size
              clear hv41
              go_simp
              refine hK.out _ _ ?_ (fun hHeld => ?_)
              · exact bbv41
              clear hK K hHeld cm
              refine wpAnyH_ready (rs := [5]) (by kernel_rfl) (by simp) ?_
              refine AllReadyH.cons rfl (fun K hK => ?_) ?_
              ·
                go_simp
                refine (K1.out v41 g1 M1_v41).mono ?_
                rintro e v42 ⟨A5, c5, rfl, O1_v42, xv42⟩
                have bbv42 := bbv41.trans (xv42.mono bbv41.size)
                have chv42 := Chg.of_below xv42 (fun _ => False)
                have lt1_v42 : g1 < v42.heap.size := Nat.lt_of_lt_of_le lt1_v41 chv42.size
                have hA5 : ∀ g', blkOf A5 = some g' → g' ≠ g2 := fun g' hg' => by have hx := (O1_v42.lt hg').1; omega
                have M2_v42 := (M2_v41.chg (Nat.le_refl _) chv42 (fun _ _ h => h)).more chv42.size
                have lt2_v42 : g2 < v42.heap.size := Nat.lt_of_lt_of_le lt2_v41 chv42.size
                go_simp
                refine hK.out _ _ ?_ (fun hHeld => ?_)
                · exact bbv42
                clear hK K hHeld
                have CV : Hid (∀ W' B, Rd W' B A5 (u8s (keyL [115, 101, 101, 100] res)) → (convert 22 9 (.slice A5 4 c5)).run Try.prog W' = .ok (.string sk) W') := Lib.hid fun W' B h => by rw [← HSK.out]; exact run_conv Try.underlying22 Try.underlying5 Try.underlying9 A5 _ 4 c5 B W' h rfl
                refine wpAnyH_imp (S' := fun w' => Below wr.heap.size wr w' ∧ (convert 22 9 (.slice A5 4 c5)).run Try.prog w' = .ok (.string sk) w') (fun w' h => h.1) _ _ _ _ ?_
                have hHeld : Below wr.heap.size wr v42 ∧ (convert 22 9 (.slice A5 4 c5)).run Try.prog v42 = .ok (.string sk) v42 := ⟨bbv42, CV.out _ _ O1_v42.rd⟩
                refine wpAnyH_take (i := 6) (oi := _) (v := ?_) rfl (by kernel_rfl) (by kernel_rfl) (by kernel_rfl) (fun _ _ _ h => h) (Or.inl ⟨by rfl, ?_⟩) (by assumption) ?_
                rotate_left
                · intro w' hSw
                  obtain ⟨_, hcv⟩ := hSw
                  go_simp
                  first | done | with_reducible rfl
                try simp only [Act.put, List.setIfInBounds_toArray, List.set_cons_zero, List.set_cons_succ]
                clear hHeld
                refine wpAnyH_ready (rs := [10]) (by kernel_rfl) (by simp) ?_
                refine AllReadyH.cons rfl (fun K hK => ?_) ?_
                ·
                  go_simp
                  refine (K2.out v42 g2 M2_v42).mono ?_
                  rintro e v43 ⟨A6, c6, rfl, O2_v43, xv43⟩
                  have bbv43 := bbv42.trans (xv43.mono bbv42.size)
                  have chv43 := Chg.of_below xv43 (fun _ => False)
                  have lt2_v43 : g2 < v43.heap.size := Nat.lt_of_lt_of_le lt2_v42 chv43.size
                  have O1_v43 := O1_v42.chg chv43 (fun _ _ h => h)
                  have lt1_v43 : g1 < v43.heap.size := Nat.lt_of_lt_of_le lt1_v42 chv43.size
                  go_simp
                  refine hK.out _ _ ?_ (fun hHeld => ?_)
                  · exact ⟨bbv43, CV.out v43 _ (O1_v43.rd)⟩
                  clear hK K hHeld
                  have hcv2 : (convert 22 9 (.slice A6 4 c6)).run Try.prog v43 = .ok (.string sk) v43 := by rw [← HSK.out]; exact run_conv Try.underlying22 Try.underlying5 Try.underlying9 A6 _ 4 c6 _ _ O2_v43.rd rfl
                  refine wpAnyH_imp (S' := fun w' => w' = v43) (fun w' e => by rw [e]; exact ⟨bbv43, CV.out v43 _ (O1_v43.rd)⟩) _ _ _ _ ?_
                  have hrf : v43 = v43 := rfl
                  refine wpAnyH_take (i := 11) (oi := _) (v := ?_) rfl (by kernel_rfl) (by kernel_rfl) (by kernel_rfl) (fun _ _ _ h => h) (Or.inl ⟨by rfl, ?_⟩) (by assumption) ?_
                  rotate_left
                  · intro w' hSw
                    subst hSw
                    go_simp
                    first | done | with_reducible rfl
                  try simp only [Act.put, List.setIfInBounds_toArray, List.set_cons_zero, List.set_cons_succ]
                  refine wpAnyH_take (i := 12) (oi := _) (v := ?_) rfl (by kernel_rfl) (by kernel_rfl) (by kernel_rfl) (fun _ _ _ h => h) (Or.inl ⟨by rfl, ?_⟩) (by assumption) ?_
                  rotate_left
                  · intro w' hSw
                    go_simp
                    first | done | with_reducible rfl
                  try simp only [Act.put, List.setIfInBounds_toArray, List.set_cons_zero, List.set_cons_succ]
                  refine wpAnyH_take (i := 13) (oi := _) (v := ?_) rfl (by kernel_rfl) (by kernel_rfl) (by kernel_rfl) (fun _ _ _ h => h) (Or.inl ⟨by rfl, ?_⟩) (by assumption) ?_
                  rotate_left
                  · intro w' hSw
                    go_simp
                    first | done | with_reducible rfl
                  try simp only [Act.put, List.setIfInBounds_toArray, List.set_cons_zero, List.set_cons_succ]
                  refine wpAnyH_ready (rs := [14]) (by kernel_rfl) (by simp) ?_
                  refine AllReadyH.cons rfl (fun K hK => ?_) AllReadyH.nil
                  go_simp
                  refine hK.out _ _ ?_ (fun hHeld => ?_)
                  · rfl
                  clear hK K
                  refine wpAnyH_done (by kernel_rfl) ?_ _
                  go_wp2_with fail
                  go_ret
                  exact ⟨rfl, HBW.out.trans (bbv43.mono HBZ.out)⟩
                exact AllReadyH.nil
              exact AllReadyH.nil
            exact AllReadyH.nil
          exact AllReadyH.nil
        exact AllReadyH.nil
      exact AllReadyH.nil
end Go.Proofs.Ytgkmeekefinmkaa
