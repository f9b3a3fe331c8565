/- BusPlays: both sides alike; acts of the bus; what the law holds. -/
import Derived.Test.YtbmkfjgodgmjnaaDH
import Derived.Test.YtbmkfjgodgmjnaaC4
namespace Go.Proofs.Ytbmkfjgodgmjnaa
open Go.RowKit Go.ChangeShapes Go.WideShapes
set_option linter.unusedVariables false
set_option linter.unusedSimpArgs false
/-- An act on a bus. -/
structure Ab where
  kind : Int
  who : Int
  f : Fr
abbrev Ab.cs (a : Ab) : List Value := .int .u8 a.kind :: .int .u8 a.who :: a.f.cs
abbrev cellsB (l : List Ab) : List Value := flatC Ab.cs l
structure Ab.wf (a : Ab) : Prop where
  k0 : 0 ≤ a.kind
  k1 : a.kind < 256
  w0 : 0 ≤ a.who
  w1 : a.who < 256
  fw : a.f.wf
theorem cells74 : Try.prog.cellsOf 74 = 13 := by kernel_rfl
theorem fs74 : ∃ f0 f1 f2 : Field, Try.prog.underlying 74 = some (.struct #[f0, f1, f2]) ∧ (f0.type = 5 ∧ f0.offset = 0) ∧ (f1.type = 5 ∧ f1.offset = 1) ∧ f2.type = 26 ∧ f2.offset = 2 :=
  ⟨_, _, _, Try.underlying74, ⟨rfl, rfl⟩, ⟨rfl, rfl⟩, rfl, rfl⟩
section
variable {H : Type} {enc : TypeId × Value → H} {w : World} {base : Nat} {spare : Nat → Bool} {held : Bool}
theorem actb_cells {fuel : Nat} {cs : List Value} {x : DataW H × List MemPlace} (h : DataW.trod enc Try.prog w base spare held fuel 74 cs = some x) : ∃ a : Ab, cs = a.cs ∧ a.wf := by
  obtain ⟨f0, f1, f2, hu, ⟨t0, o0⟩, ⟨t1, o1⟩, t2, o2⟩ := fs74
  obtain ⟨xs, n, -, -, hl, hlen, hf⟩ := DataW.trod_struct hu h
  rw [cells74] at hl
  match cs, hl with
  | c0 :: c1 :: cs, hl =>
    have h0 := hf 0 f0 rfl
    have h1 := hf 1 f1 rfl
    have h2 := hf 2 f2 rfl
    match xs, hlen with
    | [x0, x1, x2], _ =>
      simp only [t0, o0, cells5] at h0
      simp only [t1, o1, cells5] at h1
      simp only [t2, o2, cells26] at h2
      obtain ⟨k, e0, -, w0⟩ := DataW.trod_int Try.underlying5 (show DataW.trod enc Try.prog w base spare held n 5 [c0] = some x0 from h0)
      obtain ⟨m, e1, -, w1⟩ := DataW.trod_int Try.underlying5 (show DataW.trod enc Try.prog w base spare held n 5 [c1] = some x1 from h1)
      have hcs : ((c0 :: c1 :: cs).drop 2).take 11 = cs := by
        rw [List.drop_succ_cons, List.drop_succ_cons, List.drop_zero]
        exact List.take_of_length_le (by simp at hl; omega)
      obtain ⟨f, e2, hw, -⟩ := frame_cells (cs := cs) (x := x2) (by rw [← hcs]; exact h2)
      simp only [List.cons.injEq, and_true] at e0 e1
      subst e0 e1
      refine ⟨⟨k, m, f⟩, ?_, (wf_u8 w0).1, (wf_u8 w0).2, (wf_u8 w1).1, (wf_u8 w1).2, hw⟩
      rw [e2]
      rfl
theorem open_actsb {fuel : Nat} {cs : List Value} {x : DataW H × List MemPlace} (h : DataW.trod enc Try.prog w base spare held fuel 71 cs = some x) :
    ∃ (A : Option Addr) (n c : Nat) (l : List Ab), cs = [.slice A n c] ∧ n ≤ c ∧ c ≤ maxLen ∧ (A = none → n = 0 ∧ c = 0) ∧ l.length = n ∧ (∀ t ∈ l, t.wf) ∧ Rd w w.heap.size A (cellsB l) :=
  rowN Ab.cs Ab.wf 13 (by decide) Try.underlying71 cells74 (fun m cs y hy => actb_cells hy) (fun a => rfl) h
end
theorem fewb_any (A : Option Addr) (n c : Nat) (w : World) (hn : n ≤ c) (hl : n ≤ maxLen) (hA : A = none → n = 0 ∧ c = 0) :
    Calls Try.prog 40 #[.slice A n c] w fun e w' => e = .returned (.slice A (min n 60) c) ∧ w = w' := by
  unfold maxLen at hl
  by_cases h : n ≤ 60
  · have h' : (n : Int) ≤ 60 := by omega
    go_enter Try.func40, Try.ntmps40
    go_wp2
    go_ret
    exact ⟨by rw [Nat.min_eq_left h]; rfl, rfl⟩
  · have h' : 60 ≤ (n : Int) := by omega
    have h2 : 60 ≤ (c : Int) := by omega
    have h3 : (60 : Int) < n := by omega
    rcases A with _ | A
    · obtain ⟨h4, -⟩ := hA rfl
      omega
    · go_enter Try.func40, Try.ntmps40
      go_wp2
      go_ret
      exact ⟨by rw [Nat.min_eq_right (by omega)]; rfl, rfl⟩
/-- Both sides say the same. -/
def Q3 (q r : Nat → Nat) (s t : Nat → Bx) : Prop := ∀ i, i < 3 → s (q i) = (t (r i)).S
section
variable {q r : Nat → Nat} {s t : Nat → Bx}
theorem q3_fst (h : Q3 q r s t) : ∀ k, k ≤ 3 → fstK (nodesL q) s k = fstK (nodesL r) (RS t) k
  | 0, _ => rfl
  | k + 1, hk => by
    have ih := q3_fst h k (by omega)
    have hh : hd s (some (q k)) = hd (RS t) (some (r k)) := by
      show ((s (q k)).tx.headD Fr.none_, !(s (q k)).tx.isEmpty) = ((RS t (r k)).tx.headD Fr.none_, !(RS t (r k)).tx.isEmpty)
      rw [h k (by omega)]
      rfl
    unfold fstK
    rw [nodesL_get q (by omega), nodesL_get r (by omega)]
    simp only [hh, ih]
theorem q3_turnV (h : Q3 q r s t) : turnV (nodesL q) s 3 = turnV (nodesL r) (RS t) 3 := by
  unfold turnV
  rw [q3_fst h 3 (Nat.le_refl _)]
theorem q3_turn (hq : inj3 q) (hr : inj3 r) (h : Q3 q r s t) (lost : Bool) {t2 : Nat → Bx} (h2 : RTurn r t lost t2) : Q3 q r (turnS (nodesL q) s 3 lost) t2 := fun j hj => by
  rw [h2 j hj]
  unfold turnS
  rw [q3_fst h 3 (Nat.le_refl _)]
  split
  · next ho =>
    have hi := (fstK_lt (nodesL r) (RS t) 3).2 ho
    rw [nodesL_get q hi, nodesL_get r hi]
    dsimp only
    rw [afterT_at hq s hi _ lost j hj, afterT_at hr (RS t) hi _ lost j hj, h j hj, h _ hi]
    rfl
  · exact h j hj
theorem putK_fl (L : List (Option Nat)) (s : Nat → Bx) (f : Fr) : ∀ k x, ((putK L s f k).1 x).fl = (s x).fl
  | 0, x => rfl
  | k + 1, x => by
    unfold putK
    split
    · next q hq =>
      dsimp only
      by_cases hx : x = q
      · subst hx
        rw [upd_eq, ← putK_fl L s f k x]
        unfold takeX
        split
        · split <;> rfl
        · rfl
      · rw [upd_ne _ _ hx]
        exact putK_fl L s f k x
    · exact putK_fl L s f k x
theorem takeB_fl {a b : Bx} (f : Fr) (h : a.fl = b.fl) : takeB a f = takeB b f := by
  unfold takeB
  rw [h]
theorem q3_put (hq : inj3 q) (hr : inj3 r) (h : Q3 q r s t) (f : Fr) : (putK (nodesL q) s f 3).2 = (putK (nodesL r) t f 3).2 ∧ Q3 q r (putK (nodesL q) s f 3).1 (putK (nodesL r) t f 3).1 := by
  constructor
  · have key : ∀ k, k ≤ 3 → (putK (nodesL q) s f k).2 = (putK (nodesL r) t f k).2 := by
      intro k
      induction k with
      | zero => intro _; rfl
      | succ k ih =>
        intro hk
        rw [putK, putK, nodesL_get q (by omega), nodesL_get r (by omega)]
        dsimp only
        rw [ih (by omega), takeB_fl (b := s (q k)) f (putK_fl _ _ _ _ _), takeB_fl (a := ((putK (nodesL r) t f k).1 (r k))) (b := t (r k)) f (putK_fl _ _ _ _ _), h k (by omega)]
        rfl
    exact key 3 (Nat.le_refl _)
  · intro j hj
    rw [putK_at (nodesL_nd hq), putK_at (nodesL_nd hr)]
    have m1 : some (q j) ∈ (nodesL q).take 3 := List.mem_of_getElem? (i := j) (by rw [List.getElem?_take, if_pos hj]; exact nodesL_get q hj)
    have m2 : some (r j) ∈ (nodesL r).take 3 := List.mem_of_getElem? (i := j) (by rw [List.getElem?_take, if_pos hj]; exact nodesL_get r hj)
    rw [if_pos m1, if_pos m2, h j hj, S_take]
theorem q3_upd (hq : inj3 q) (hr : inj3 r) (h : Q3 q r s t) {i : Nat} (hi : i < 3) {a b : Bx} (hab : a = b.S) : Q3 q r (upd s (q i) a) (upd t (r i) b) := fun j hj => by
  by_cases hji : j = i
  · subst hji
    rw [upd_eq, upd_eq, hab]
  · rw [upd_ne _ _ (fun e => hji (hq j i hj hi e)), upd_ne _ _ (fun e => hji (hr j i hj hi e))]
    exact h j hj
end
/-- What the law holds: nodes of both sides, blocks of its own that stay (ks), and such as it writes (ms). -/
def CH (w : World) (ks ms : List (Nat × TypeId × Array Value)) (q r : Nat → Nat) (A A' : Option Addr) (s t : Nat → Bx) (w' : World) : Prop :=
  ∃ Φ, NS w.heap.size (in3 q) (in3 r) w A (nodesL q) A' (nodesL r) s t Φ w' ∧ (∀ k ∈ ks, BlC Φ (0, 9) w' k.1 k.2.1 k.2.2) ∧ ∀ m ∈ ms, w.heap.size ≤ m.1 ∧ BlC Φ (0, 8) w' m.1 m.2.1 m.2.2
def CHP (w : World) (ks ms : List (Nat × TypeId × Array Value)) (q r : Nat → Nat) (A A' : Option Addr) (s t : Nat → Bx) (v : Value) (e : Ending) (w' : World) : Prop := e = .returned v ∧ CH w ks ms q r A A' s t w'
section
variable {f : Fr} {w w1 w2 : World} {ks ms : List (Nat × TypeId × Array Value)} {q r : Nat → Nat} {A A' : Option Addr} {t s s2 t2 : Nat → Bx} {Φ : Who}
theorem CH.below (h : CH w ks ms q r A A' s t w1) (hb : Below w1.heap.size w1 w2) : CH w ks ms q r A A' s t w2 := by
  obtain ⟨Φ, h1, h2, h3⟩ := h
  exact ⟨Φ, h1.below hb, fun k hk => (h2 k hk).below hb, fun m hm => ⟨(h3 m hm).1, (h3 m hm).2.below hb⟩⟩
theorem CH.mono (h : CH w ks ms q r A A' s t w1) {ks' ms' : List (Nat × TypeId × Array Value)} (hk : ∀ k ∈ ks', k ∈ ks) (hm : ∀ k ∈ ms', k ∈ ms) : CH w ks' ms' q r A A' s t w1 := by
  obtain ⟨Φ, h1, h2, h3⟩ := h
  exact ⟨Φ, h1, fun k h => h2 k (hk k h), fun k h => h3 k (hm k h)⟩
theorem CH.bel (h : CH w ks ms q r A A' s t w1) : Below w.heap.size w w1 := by
  obtain ⟨Φ, h1, h2⟩ := h
  exact h1.bel
theorem CH.new (h : CH w ks ms q r A A' s t w1) (hb : Below w1.heap.size w1 w2) {g : Nat} {ty : TypeId} {cs : Array Value} (hB : Blk w2 g ty cs) (hg : w1.heap.size ≤ g) : CH w ((g, ty, cs) :: ks) ms q r A A' s t w2 := by
  obtain ⟨Φ, h1, h2, h3⟩ := h
  refine ⟨Φ, h1.below hb, fun k hk => ?_, fun m hm => ⟨(h3 m hm).1, (h3 m hm).2.below hb⟩⟩
  rcases List.mem_cons.1 hk with rfl | hk
  · exact ⟨hB, h1.n g hg⟩
  · exact (h2 k hk).below hb
/-- Nodes stay where what is painted, or written, is (0, 8)'s. -/
theorem NS.ext8 {B : Nat} {D D' : Nat → Prop} {W0 w w' : World} {A A' : Option Addr} {L L' : List (Option Nat)} {s t : Nat → Bx} {Φ Φ' : Who} (h1 : NS B D D' W0 A L A' L' s t Φ w) (x : Ext B (fun c => c = (0, 8)) Φ Φ' w w') : NS B D D' W0 A L A' L' s t Φ' w' := by
  have no : ∀ (q j : Nat), j < 3 → ¬ ((q, j) : Nat × Nat) = (0, 8) := fun q j hj hh => by simp at hh; omega
  have no3 : ∀ (q : Nat), ¬ ((q, 3) : Nat × Nat) = (0, 8) := fun q hh => by simp at hh
  exact ⟨h1.p.ext x (fun q j _ hj => no q j hj) (by simp), h1.r.ext x (fun q _ => no3 q) (by simp), x.nu, h1.rp.ext x (by simp), h1.rr.ext x (by simp), Nat.le_trans h1.b x.size, h1.bel.trans ((x.below h1.b).mono h1.b0), h1.b0⟩
/-- A block that was just made may be written by the law from now on. -/
theorem CH.newm (h : CH w ks ms q r A A' s t w1) (hb : Below w1.heap.size w1 w2) {g : Nat} {ty : TypeId} {cs : Array Value} (hB : Blk w2 g ty cs) (hg : w1.heap.size ≤ g) : CH w ks ((g, ty, cs) :: ms) q r A A' s t w2 := by
  obtain ⟨Φ, h1, h2, h3⟩ := h
  have hx := (Ext.of_below (B := w.heap.size) (S := fun c => c = (0, 8)) h1.n hb).paint (A := some ⟨g, 0, none⟩) (k := (0, 8)) (fun g' hg' => by
    simp only [blkOf, Option.map_some, Option.some.injEq] at hg'
    subst hg'
    exact ⟨hB.lt, fun h => by omega⟩)
  refine ⟨_, h1.ext8 hx, fun k hk => (h2 k hk).ext hx (by simp), fun m hm => ?_⟩
  rcases List.mem_cons.1 hm with rfl | hm
  · exact ⟨Nat.le_trans h1.bel.size hg, hB, paint_at rfl⟩
  · have h4 := (h3 m hm)
    refine ⟨h4.1, (h4.2.below hb).1, (hx.1 m.1 h4.2.1.lt).trans h4.2.2⟩
/-- One of its blocks is written. -/
theorem CH.set {g : Nat} {ty : TypeId} {cs cs' : Array Value} (h : CH w ks ((g, ty, cs) :: ms) q r A A' s t w1) (hB : Blk w2 g ty cs') (hg : w1.grownBy w2 (some g)) (hne : ∀ m ∈ ms, m.1 ≠ g) : CH w ks ((g, ty, cs') :: ms) q r A A' s t w2 := by
  obtain ⟨Φ, h1, h2, h3⟩ := h
  have h4 := h3 _ (.head _)
  have hx : Ext w.heap.size (fun c => c = (0, 8)) Φ Φ w1 w2 := ⟨fun _ _ => rfl, h1.n.more hg.size, (Chg.of_grown hg).mono fun i _ hi => by injection hi with hi; subst hi; exact ⟨h4.1, h4.2.2⟩⟩
  refine ⟨Φ, h1.ext8 hx, fun k hk => (h2 k hk).ext hx (by simp), fun m hm => ?_⟩
  rcases List.mem_cons.1 hm with rfl | hm
  · exact ⟨h4.1, hB, h4.2.2⟩
  · have h5 := h3 m (.tail _ hm)
    exact ⟨h5.1, h5.2.1.grown hg (fun e => hne m hm (by injection e)), h5.2.2⟩
theorem CH.call {e : Ending} {v : Value} {Φ : Who} (h2 : ∀ k ∈ ks, BlC Φ (0, 9) w1 k.1 k.2.1 k.2.2) (h3 : ∀ m ∈ ms, w.heap.size ≤ m.1 ∧ BlC Φ (0, 8) w1 m.1 m.2.1 m.2.2) (hp : CallP w.heap.size (NS w.heap.size (in3 q) (in3 r) w A (nodesL q) A' (nodesL r) s2 t2) v Φ w1 e w2) : CHP w ks ms q r A A' s2 t2 v e w2 := by
  obtain ⟨he, Φ', g1, g2⟩ := hp
  exact ⟨he, Φ', g1, fun k hk => (h2 k hk).ext g2 SA.no9, fun m hm => ⟨(h3 m hm).1, (h3 m hm).2.ext g2 SA.no8⟩⟩
theorem CH.send (h : CH w ks ms q r A A' s t w1) {i : Nat} (hi : i < 3) (f : Fr) (hf : f.wf) : Calls Try.prog 18 #[.pointer (some ⟨q i, 0, none⟩), f.val] w1 (CHP w ks ms q r A A' (upd s (q i) (sendX (s (q i)) f)) t (.int .i64 (sendE (s (q i)) f))) := by
  obtain ⟨Φ, h1, h2, h3⟩ := h
  exact (ns_send h1 ⟨i, hi, rfl⟩ f hf).mono fun e w' hp => CH.call h2 h3 hp
theorem CH.rsend (h : CH w ks ms q r A A' s t w1) {i : Nat} (hi : i < 3) (f : Fr) (hf : f.wf) : Calls Try.prog 28 #[.pointer (some ⟨r i, 0, none⟩), f.val] w1 (CHP w ks ms q r A A' s (upd t (r i) (rsendX (t (r i)) f)) (.int .i64 (sendE (t (r i)) f))) := by
  obtain ⟨Φ, h1, h2, h3⟩ := h
  exact (ns_rsend h1 ⟨i, hi, rfl⟩ f hf).mono fun e w' hp => CH.call h2 h3 hp
theorem CH.recv (h : CH w ks ms q r A A' s t w1) {i : Nat} (hi : i < 3) : Calls Try.prog 23 #[.pointer (some ⟨q i, 0, none⟩)] w1 (CHP w ks ms q r A A' (upd s (q i) { s (q i) with rx := (s (q i)).rx.tail }) t (.tuple #[((s (q i)).rx.headD Fr.none_).val, .bool (!(s (q i)).rx.isEmpty)])) := by
  obtain ⟨Φ, h1, h2, h3⟩ := h
  exact (ns_recv h1 ⟨i, hi, rfl⟩).mono fun e w' hp => CH.call h2 h3 hp
theorem CH.rrecv (h : CH w ks ms q r A A' s t w1) {i : Nat} (hi : i < 3) : Calls Try.prog 31 #[.pointer (some ⟨r i, 0, none⟩)] w1 (CHP w ks ms q r A A' s (upd t (r i) { t (r i) with rx := (t (r i)).rx.tail }) (.tuple #[((t (r i)).rx.headD Fr.none_).val, .bool (!(t (r i)).rx.isEmpty)])) := by
  obtain ⟨Φ, h1, h2, h3⟩ := h
  exact (ns_rrecv h1 ⟨i, hi, rfl⟩).mono fun e w' hp => CH.call h2 h3 hp
theorem CH.turn (h : CH w ks ms q r A A' s t w1) {c : Nat} (lost : Bool) (hc3 : 3 ≤ c) (hc : c ≤ maxLen) : Calls Try.prog 37 #[.bool lost, .slice A 3 c] w1 (CHP w ks ms q r A A' (turnS (nodesL q) s 3 lost) t (.tuple #[.int .i64 (turnV (nodesL q) s 3).1, (turnV (nodesL q) s 3).2.1.val, .bool (turnV (nodesL q) s 3).2.2])) := by
  obtain ⟨Φ, h1, h2, h3⟩ := h
  exact (ns_turn (n := 3) h1 lost (nodesL_in q) rfl hc3 hc).mono fun e w' hp => CH.call h2 h3 hp
theorem CH.put (h : CH w ks ms q r A A' s t w1) {c : Nat} (hc3 : 3 ≤ c) (hc : c ≤ maxLen) (f : Fr) (hf : f.wf) : Calls Try.prog 39 #[f.val, .slice A 3 c] w1 (CHP w ks ms q r A A' (putK (nodesL q) s f 3).1 t (.int .i64 (putK (nodesL q) s f 3).2)) := by
  obtain ⟨Φ, h1, h2, h3⟩ := h
  exact (ns_put (n := 3) h1 (nodesL_in q) rfl hc3 hc f hf).mono fun e w' hp => CH.call h2 h3 hp
theorem CH.first (h : CH w ks ms q r A A' s t w1) {c : Nat} (hc3 : 3 ≤ c) (hc : c ≤ maxLen) : Calls Try.prog 38 #[.slice A 3 c] w1 fun e w' => e = .returned (.tuple #[.int .i64 (fstK (nodesL q) s 3).1, (fstK (nodesL q) s 3).2.1.val, .bool (fstK (nodesL q) s 3).2.2]) ∧ Below w1.heap.size w1 w' := by
  obtain ⟨Φ, h1, h2, h3⟩ := h
  exact ns_first (n := 3) h1 (nodesL_in q) rfl hc3 hc
theorem nodesL_all (r : Nat → Nat) : ∀ x ∈ nodesL r, ∃ y, x = some y ∧ in3 r y := fun x hx => by
  simp [nodesL] at hx
  rcases hx with rfl | rfl | rfl
  · exact ⟨_, rfl, 0, by decide, rfl⟩
  · exact ⟨_, rfl, 1, by decide, rfl⟩
  · exact ⟨_, rfl, 2, by decide, rfl⟩
theorem CH.rfirst (h : CH w ks ms q r A A' s t w1) {c : Nat} (hc3 : 3 ≤ c) (hc : c ≤ maxLen) : Calls Try.prog 41 #[.slice A' 3 c] w1 fun e w' => e = .returned (.tuple #[.int .i64 (fstK (nodesL r) (RS t) 3).1, (fstK (nodesL r) (RS t) 3).2.1.val, .bool (fstK (nodesL r) (RS t) 3).2.2]) ∧ Below w1.heap.size w1 w' := by
  obtain ⟨Φ, h1, h2, h3⟩ := h
  exact rfirst_any (n := 3) h1.r (nodesL_all r) h1.rr.rd rfl hc3 hc
/-- What a call of the reference's leaves, where the law holds CH. -/
def CRP (w : World) (ks ms : List (Nat × TypeId × Array Value)) (q r : Nat → Nat) (A A' : Option Addr) (s : Nat → Bx) (T : (Nat → Bx) → Prop) (v : Value) (e : Ending) (w' : World) : Prop := e = .returned v ∧ ∃ t2, T t2 ∧ CH w ks ms q r A A' s t2 w'
theorem CH.rcall {e : Ending} {v : Value} {Φ : Who} {T : (Nat → Bx) → Prop} (h1 : NS w.heap.size (in3 q) (in3 r) w A (nodesL q) A' (nodesL r) s t Φ w1) (h2 : ∀ k ∈ ks, BlC Φ (0, 9) w1 k.1 k.2.1 k.2.2) (h3 : ∀ m ∈ ms, w.heap.size ≤ m.1 ∧ BlC Φ (0, 8) w1 m.1 m.2.1 m.2.2) (hp : RCallP Φ w.heap.size (in3 r) w1 T v e w2) : CRP w ks ms q r A A' s T v e w2 := by
  obtain ⟨he, Φ', t2, ht, g1, g2⟩ := hp
  have n9 : ¬ SR (in3 r) (0, 9) := SR.no _ (by decide)
  refine ⟨he, t2, ht, Φ', ⟨h1.p.ext g2 (fun q j _ hj => SR.no _ (by omega)) n9, g1, g2.nu, h1.rp.ext g2 n9, h1.rr.ext g2 n9, Nat.le_trans h1.b g2.size, h1.bel.trans ((g2.below h1.b).mono h1.b0), h1.b0⟩, fun k hk => (h2 k hk).ext g2 n9, fun m hm => ⟨(h3 m hm).1, (h3 m hm).2.ext g2 (SR.no _ (by decide))⟩⟩
theorem CH.rput (h : CH w ks ms q r A A' s t w1) {c : Nat} (hc3 : 3 ≤ c) (hc : c ≤ maxLen) (f : Fr) (hf : f.wf) : Calls Try.prog 43 #[f.val, .slice A' 3 c] w1 (CRP w ks ms q r A A' s (fun t2 => t2 = (putK (nodesL r) t f 3).1) (.int .i64 (putK (nodesL r) t f 3).2)) := by
  obtain ⟨Φ, h1, h2, h3⟩ := h
  exact (rput_any h1.r h1.n h1.b h1.rr hc3 hc f hf).mono fun e w' hp => CH.rcall h1 h2 h3 hp
theorem CH.rturn (h : CH w ks ms q r A A' s t w1) (hri : inj3 r) {c : Nat} (lost : Bool) (hc3 : 3 ≤ c) (hc : c ≤ maxLen) : Calls Try.prog 42 #[.bool lost, .slice A' 3 c] w1 (CRP w ks ms q r A A' s (RTurn r t lost) (.tuple #[.int .i64 (turnV (nodesL r) (RS t) 3).1, (turnV (nodesL r) (RS t) 3).2.1.val, .bool (turnV (nodesL r) (RS t) 3).2.2])) := by
  obtain ⟨Φ, h1, h2, h3⟩ := h
  exact (rturn_any lost hri h1.r h1.n h1.b h1.rr hc3 hc).mono fun e w' hp => CH.rcall h1 h2 h3 hp
theorem CH.wait (h : CH w ks ms q r A A' s t w1) {i : Nat} (hi : i < 3) : Calls Try.prog 21 #[.pointer (some ⟨q i, 0, none⟩)] w1 fun e w' => e = .returned (.int .i64 (s (q i)).tx.length) ∧ w1 = w' := by
  obtain ⟨Φ, h1, h2⟩ := h
  exact ns_wait h1 ⟨i, hi, rfl⟩
theorem CH.blk (h : CH w ks ms q r A A' s t w1) {g : Nat} {ty : TypeId} {cs : Array Value} (hk : (g, ty, cs) ∈ ks) : Blk w1 g ty cs := by
  obtain ⟨Φ, h1, h2, h3⟩ := h
  exact (h2 _ hk).1
theorem CH.blkm (h : CH w ks ms q r A A' s t w1) {g : Nat} {ty : TypeId} {cs : Array Value} (hk : (g, ty, cs) ∈ ms) : Blk w1 g ty cs := by
  obtain ⟨Φ, h1, h2, h3⟩ := h
  exact (h3 _ hk).2.1
theorem CH.wf (h : CH w ks ms q r A A' s t w1) {i : Nat} (hi : i < 3) : (s (q i)).ok ∧ (t (r i)).ok := by
  obtain ⟨Φ, h1, h2⟩ := h
  exact ⟨(h1.p (q i) ⟨i, hi, rfl⟩).2.1, (h1.r (r i) ⟨i, hi, rfl⟩).2.1⟩
theorem CH.ad (h : CH w ks ms q r A A' s t w1) : ∃ g o, A = some ⟨g, o, none⟩ := by
  obtain ⟨Φ, h1, h2⟩ := h
  obtain ⟨g, o, e, -⟩ := h1.node (nodesL_get q (i := 0) (by decide))
  exact ⟨g, o, e⟩
theorem CH.rad (h : CH w ks ms q r A A' s t w1) : ∃ g o, A' = some ⟨g, o, none⟩ := by
  obtain ⟨Φ, h1, h2⟩ := h
  obtain ⟨g, o, e, -⟩ := h1.rnode (nodesL_get r (i := 0) (by decide))
  exact ⟨g, o, e⟩
theorem CH.nc {g o : Nat} (h : CH w ks ms q r (some ⟨g, o, none⟩) A' s t w1) {i : Nat} (hi : i < 3) : w1.cell? ⟨g, o + i, none⟩ = some (.pointer (some ⟨q i, 0, none⟩)) := by
  obtain ⟨Φ, h1, h2⟩ := h
  obtain ⟨g', o', e, hc⟩ := h1.node (nodesL_get q hi)
  simp only [Option.some.injEq, Addr.mk.injEq] at e
  obtain ⟨rfl, rfl, -⟩ := e
  exact hc _ (Below.refl _ _)
theorem CH.rnc {g o : Nat} (h : CH w ks ms q r A (some ⟨g, o, none⟩) s t w1) {i : Nat} (hi : i < 3) : w1.cell? ⟨g, o + i, none⟩ = some (.pointer (some ⟨r i, 0, none⟩)) := by
  obtain ⟨Φ, h1, h2⟩ := h
  obtain ⟨g', o', e, hc⟩ := h1.rnode (nodesL_get r hi)
  simp only [Option.some.injEq, Addr.mk.injEq] at e
  obtain ⟨rfl, rfl, -⟩ := e
  exact hc _ (Below.refl _ _)
/-- One box of the reference's, whose cells are known, beside all that. -/
def CHB (w : World) (ks ms : List (Nat × TypeId × Array Value)) (q r : Nat → Nat) (A A' : Option Addr) (i : Nat) (cs : Array Value) (s t : Nat → Bx) (w' : World) : Prop :=
  ∃ Φ, NS w.heap.size (in3 q) (in3 r) w A (nodesL q) A' (nodesL r) s t Φ w' ∧ ((∀ k ∈ ks, BlC Φ (0, 9) w' k.1 k.2.1 k.2.2) ∧ ∀ m ∈ ms, w.heap.size ≤ m.1 ∧ BlC Φ (0, 8) w' m.1 m.2.1 m.2.2) ∧ BlC Φ (r i, 3) w' (r i) 54 cs
theorem CHB.ch {i : Nat} {cs : Array Value} (h : CHB w ks ms q r A A' i cs s t w1) : CH w ks ms q r A A' s t w1 := by
  obtain ⟨Φ, h1, h2, h3⟩ := h
  exact ⟨Φ, h1, h2⟩
theorem CH.chb (h : CH w ks ms q r A A' s t w1) {i : Nat} (hi : i < 3) : ∃ A0 n0 c0 A1 c1 A2 n2 c2, CHB w ks ms q r A A' i #[.slice A0 n0 c0, .slice A1 (t (r i)).tx.length c1, .slice A2 n2 c2, .bool (t (r i)).lost] s t w1 := by
  obtain ⟨Φ, h1, h2⟩ := h
  obtain ⟨-, -, hr, A0, c0, A1, c1, A2, c2, h4, -⟩ := h1.r (r i) ⟨i, hi, rfl⟩
  exact ⟨A0, _, c0, A1, c1, A2, _, c2, Φ, h1, h2, h4, hr⟩
theorem CHB.below {i : Nat} {cs : Array Value} (h : CHB w ks ms q r A A' i cs s t w1) (hb : Below w1.heap.size w1 w2) : CHB w ks ms q r A A' i cs s t w2 := by
  obtain ⟨Φ, h1, ⟨h2, h3⟩, h4⟩ := h
  exact ⟨Φ, h1.below hb, ⟨fun k hk => (h2 k hk).below hb, fun m hm => ⟨(h3 m hm).1, (h3 m hm).2.below hb⟩⟩, h4.below hb⟩
theorem CHB.blk {i : Nat} {cs : Array Value} (h : CHB w ks ms q r A A' i cs s t w1) : Blk w1 (r i) 54 cs := by
  obtain ⟨Φ, h1, h2, h3⟩ := h
  exact h3.1
theorem CHB.over {i : Nat} {cs : Array Value} (h : CHB w ks ms q r A A' i cs s t w1) (hi : i < 3) : Calls Try.prog 24 #[.pointer (some ⟨q i, 0, none⟩)] w1 fun e w' => e = .returned (.bool (s (q i)).lost) ∧ CHB w ks ms q r A A' i cs (upd s (q i) { s (q i) with lost := false }) t w' := by
  obtain ⟨Φ, h1, ⟨h2, h3⟩, h4⟩ := h
  refine (over_any (h1.p (q i) ⟨i, hi, rfl⟩) h1.n).mono fun e w' hp => ?_
  obtain ⟨he, Φ', g1, g2⟩ := hp
  have g3 := g2.mono (S' := SD (in3 q)) (Nat.le_refl _) (SD.of ⟨i, hi, rfl⟩)
  exact ⟨he, Φ', (h1.ofD g3 (h1.p.upd g2 g1)).1, ⟨fun k hk => (h2 k hk).ext g2 (Sq.no9 _), fun m hm => ⟨(h3 m hm).1, (h3 m hm).2.ext g2 (Sq.no8 _)⟩⟩, h4.ext g2 (Sq.nor _ _)⟩
end
end Go.Proofs.Ytbmkfjgodgmjnaa
