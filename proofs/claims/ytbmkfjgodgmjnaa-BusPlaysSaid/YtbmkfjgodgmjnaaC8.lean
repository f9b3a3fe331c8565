/- The program's box and the reference's, side by side. -/
import Derived.Test.YtbmkfjgodgmjnaaRE
import Derived.Test.YtbmkfjgodgmjnaaC5
import Derived.Test.YtbmkfjgodgmjnaaChain
namespace Go.Proofs.Ytbmkfjgodgmjnaa
open Go.RowKit
set_option linter.unusedVariables false
set_option linter.unusedSimpArgs false
/-- What the program's box says where the reference's says b. -/
def Bx.S (b : Bx) : Bx := { b with tx := sent b.tx }
theorem S_sendE (b : Bx) (f : Fr) : sendE b.S f = sendE b f := by
  unfold sendE Bx.S
  rw [sent_length]
theorem S_send (b : Bx) (f : Fr) : sendX b.S f = (rsendX b f).S := by
  unfold sendX rsendX
  rw [S_sendE]
  split
  · unfold Bx.S
    simp only [sent_snoc]
  · rfl
theorem S_takeB (b : Bx) (f : Fr) : takeB b.S f = takeB b f := rfl
theorem S_take (b : Bx) (f : Fr) : takeX b.S f = (takeX b f).S := by
  unfold takeX
  rw [S_takeB]
  split
  · show (if b.rx.length < 4 then _ else _) = _
    split <;> rfl
  · rfl
/-- The two boxes, what they say, and a block beside them. -/
def Mid (B q r ac : Nat) (W0 : World) (t : TypeId) (cs : Array Value) (a b : Bx) (w : World) : Prop := ∃ Φ, BX Φ B w q a ∧ RB Φ B w r b ∧ Nu Φ w ∧ BlC Φ (0, 9) w ac t cs ∧ B ≤ w.heap.size ∧ Below W0.heap.size W0 w ∧ W0.heap.size ≤ B
section
variable {B q r ac : Nat} {W0 w w' : World} {t : TypeId} {cs : Array Value} {a b : Bx}
theorem Mid.blk (h : Mid B q r ac W0 t cs a b w) : Blk w ac t cs := by obtain ⟨Φ, -, -, -, h, -⟩ := h; exact h.1
theorem Mid.bel (h : Mid B q r ac W0 t cs a b w) : Below W0.heap.size W0 w := by obtain ⟨Φ, -, -, -, -, -, h, -⟩ := h; exact h
theorem Mid.below (h : Mid B q r ac W0 t cs a b w) (hb : Below w.heap.size w w') : Mid B q r ac W0 t cs a b w' := by
  obtain ⟨Φ, h1, h2, h3, h4, h5, h6, h7⟩ := h
  exact ⟨Φ, h1.below hb, h2.below hb, h3.below hb, h4.below hb, Nat.le_trans h5 hb.size, h6.trans (hb.mono h6.size), h7⟩
/-- Another block beside them. -/
theorem Mid.beside (h : Mid B q r ac W0 t cs a b w) {t' : TypeId} {cs' : Array Value} : Mid B q r w.heap.size W0 t' cs' a b (w.alloc (.cells cs' t')) := by
  obtain ⟨Φ, h1, h2, h3, h4, h5, h6, h7⟩ := h.below (bl1 w (.cells cs' t'))
  obtain ⟨Φ', g1, g2, g3, g4, g5, g6, g7⟩ := h
  have hb := bl1 w (.cells cs' t')
  exact ⟨Φ', g1.below hb, g2.below hb, g3.below hb, ⟨Blk.new _ _ _, g3 _ (Nat.le_refl _)⟩, Nat.le_trans g5 hb.size, g6.trans (hb.mono g6.size), g7⟩
theorem Mid.p (h : Mid B q r ac W0 t cs a b w) {a' : Bx} {v : Value} {e : Ending} {w' : World} (hp : ∀ Φ, BX Φ B w q a → Nu Φ w → BxP Φ B w q a' v e w' → e = .returned v ∧ Mid B q r ac W0 t cs a' b w') : True := trivial
theorem mid_p {a' : Bx} {v : Value} {e : Ending} {Φ : Who} (h2 : RB Φ B w r b) (h4 : BlC Φ (0, 9) w ac t cs) (h5 : B ≤ w.heap.size) (h6 : Below W0.heap.size W0 w) (h7 : W0.heap.size ≤ B) (hp : BxP Φ B w q a' v e w') : e = .returned v ∧ Mid B q r ac W0 t cs a' b w' := by
  obtain ⟨he, Φ', g1, g2⟩ := hp
  exact ⟨he, Φ', g1, h2.ext g2 (Sq.nor q r) (Sq.no9 q), g2.nu, h4.ext g2 (Sq.no9 q), Nat.le_trans h5 g2.size, h6.trans ((g2.below h5).mono h7), h7⟩
theorem mid_r {b' : Bx} {v : Value} {e : Ending} {Φ : Who} (h1 : BX Φ B w q a) (h4 : BlC Φ (0, 9) w ac t cs) (h5 : B ≤ w.heap.size) (h6 : Below W0.heap.size W0 w) (h7 : W0.heap.size ≤ B) (hp : RbP Φ B w r b' v e w') : e = .returned v ∧ Mid B q r ac W0 t cs a b' w' := by
  obtain ⟨he, g1, g2⟩ := hp
  exact ⟨he, Φ, h1.ext g2 (fun j hj => Sr.noq r q j hj) (Sr.no9 r), g1, g2.nu, h4.ext g2 (Sr.no9 r), Nat.le_trans h5 g2.size, h6.trans ((g2.below h5).mono h7), h7⟩
theorem mid_send (h : Mid B q r ac W0 t cs a b w) (f : Fr) (hf : f.wf) : Calls Try.prog 18 #[.pointer (some ⟨q, 0, none⟩), f.val] w fun e w' => e = .returned (.int .i64 (sendE a f)) ∧ Mid B q r ac W0 t cs (sendX a f) b w' := by
  obtain ⟨Φ, h1, h2, h3, h4, h5, h6, h7⟩ := h
  exact (send_any h1 h5 h3 f hf).mono fun e w' hp => mid_p h2 h4 h5 h6 h7 hp
theorem mid_rsend (h : Mid B q r ac W0 t cs a b w) (f : Fr) (hf : f.wf) : Calls Try.prog 28 #[.pointer (some ⟨r, 0, none⟩), f.val] w fun e w' => e = .returned (.int .i64 (sendE b f)) ∧ Mid B q r ac W0 t cs a (rsendX b f) w' := by
  obtain ⟨Φ, h1, h2, h3, h4, h5, h6, h7⟩ := h
  exact (rsend_any h2 h5 h3 f hf).mono fun e w' hp => mid_r h1 h4 h5 h6 h7 hp
theorem mid_take (h : Mid B q r ac W0 t cs a b w) (f : Fr) (hf : f.wf) : Calls Try.prog 16 #[.pointer (some ⟨q, 0, none⟩), f.val] w fun e w' => e = .returned (.bool (takeB a f)) ∧ Mid B q r ac W0 t cs (takeX a f) b w' := by
  obtain ⟨Φ, h1, h2, h3, h4, h5, h6, h7⟩ := h
  exact (take_any h1 h5 h3 f hf).mono fun e w' hp => mid_p h2 h4 h5 h6 h7 hp
theorem mid_rtake (h : Mid B q r ac W0 t cs a b w) (f : Fr) (hf : f.wf) : Calls Try.prog 30 #[.pointer (some ⟨r, 0, none⟩), f.val] w fun e w' => e = .returned (.bool (takeB b f)) ∧ Mid B q r ac W0 t cs a (takeX b f) w' := by
  obtain ⟨Φ, h1, h2, h3, h4, h5, h6, h7⟩ := h
  exact (rtake_any h2 h5 h3 f hf).mono fun e w' hp => mid_r h1 h4 h5 h6 h7 hp
theorem mid_over (h : Mid B q r ac W0 t cs a b w) : Calls Try.prog 24 #[.pointer (some ⟨q, 0, none⟩)] w fun e w' => e = .returned (.bool a.lost) ∧ Mid B q r ac W0 t cs { a with lost := false } b w' := by
  obtain ⟨Φ, h1, h2, h3, h4, h5, h6, h7⟩ := h
  exact (over_any h1 h3).mono fun e w' hp => mid_p h2 h4 h5 h6 h7 hp
theorem mid_rover (h : Mid B q r ac W0 t cs a b w) : Calls Try.prog 32 #[.pointer (some ⟨r, 0, none⟩)] w fun e w' => e = .returned (.bool b.lost) ∧ Mid B q r ac W0 t cs a { b with lost := false } w' := by
  obtain ⟨Φ, h1, h2, h3, h4, h5, h6, h7⟩ := h
  exact (rover_any h2 h3).mono fun e w' hp => mid_r h1 h4 h5 h6 h7 hp
theorem mid_done (h : Mid B q r ac W0 t cs a b w) : Calls Try.prog 22 #[.pointer (some ⟨q, 0, none⟩)] w fun e w' => e = .returned (.tuple #[]) ∧ Mid B q r ac W0 t cs { a with tx := a.tx.tail } b w' := by
  obtain ⟨Φ, h1, h2, h3, h4, h5, h6, h7⟩ := h
  exact (done_any h1 h3).mono fun e w' hp => mid_p h2 h4 h5 h6 h7 hp
def RdoneM (B q r ac : Nat) (W0 : World) (t : TypeId) (cs : Array Value) (a b : Bx) (e : Ending) (w' : World) : Prop := ∃ tx, sent tx = (sent b.tx).tail ∧ e = .returned (.tuple #[]) ∧ Mid B q r ac W0 t cs a { b with tx := tx } w'
theorem mid_rdone (h : Mid B q r ac W0 t cs a b w) : Calls Try.prog 29 #[.pointer (some ⟨r, 0, none⟩)] w (RdoneM B q r ac W0 t cs a b) := by
  obtain ⟨Φ, h1, h2, h3, h4, h5, h6, h7⟩ := h
  exact (rdone_any h2 h5 h3).mono fun e w' ⟨tx, htx, hp⟩ => ⟨tx, htx, mid_r h1 h4 h5 h6 h7 hp⟩
theorem mid_recv (h : Mid B q r ac W0 t cs a b w) : Calls Try.prog 23 #[.pointer (some ⟨q, 0, none⟩)] w fun e w' => e = .returned (.tuple #[(a.rx.headD Fr.none_).val, .bool (!a.rx.isEmpty)]) ∧ Mid B q r ac W0 t cs { a with rx := a.rx.tail } b w' := by
  cases hx : a.rx with
  | nil =>
    have ha : ({ a with rx := ([] : List Fr).tail } : Bx) = a := by rw [← hx]; obtain ⟨x1, x2, x3, x4⟩ := a; simp at hx; subst hx; rfl
    rw [ha]
    have h' := h
    obtain ⟨Φ, h1, h2, h3, h4, h5, h6, h7⟩ := h
    exact (recv_no h1 hx).mono fun e w' ⟨he, hb⟩ => ⟨he, h'.below hb⟩
  | cons x l =>
    obtain ⟨Φ, h1, h2, h3, h4, h5, h6, h7⟩ := h
    exact (recv_yes h1 h3 hx).mono fun e w' hp => mid_p h2 h4 h5 h6 h7 hp
theorem mid_rrecv (h : Mid B q r ac W0 t cs a b w) : Calls Try.prog 31 #[.pointer (some ⟨r, 0, none⟩)] w fun e w' => e = .returned (.tuple #[(b.rx.headD Fr.none_).val, .bool (!b.rx.isEmpty)]) ∧ Mid B q r ac W0 t cs a { b with rx := b.rx.tail } w' := by
  cases hx : b.rx with
  | nil =>
    have ha : ({ b with rx := ([] : List Fr).tail } : Bx) = b := by rw [← hx]; obtain ⟨x1, x2, x3, x4⟩ := b; simp at hx; subst hx; rfl
    rw [ha]
    obtain ⟨Φ, h1, h2, h3, h4, h5, h6, h7⟩ := h
    exact (rrecv_no h2 h3 hx).mono fun e w' hp => mid_r h1 h4 h5 h6 h7 hp
  | cons x l =>
    obtain ⟨Φ, h1, h2, h3, h4, h5, h6, h7⟩ := h
    exact (rrecv_yes h2 h5 h3 hx).mono fun e w' hp => mid_r h1 h4 h5 h6 h7 hp
theorem mid_next (h : Mid B q r ac W0 t cs a b w) {x : Fr} {ok : Bool} (hx : a.tx.headD Fr.none_ = x) (ho : (!a.tx.isEmpty) = ok) : Calls Try.prog 19 #[.pointer (some ⟨q, 0, none⟩)] w fun e w' => e = .returned (.tuple #[x.val, .bool ok]) ∧ Below w.heap.size w w' := by
  obtain ⟨Φ, h1, h2, h3, h4, h5, h6, h7⟩ := h
  exact next_hd h1 hx ho
theorem mid_rnext (h : Mid B q r ac W0 t cs a b w) {x : Fr} {ok : Bool} (hx : (sent b.tx).headD Fr.none_ = x) (ho : (!(sent b.tx).isEmpty) = ok) : Calls Try.prog 33 #[.pointer (some ⟨r, 0, none⟩)] w fun e w' => e = .returned (.tuple #[x.val, .bool ok]) ∧ Below w.heap.size w w' := by
  obtain ⟨Φ, h1, h2, h3, h4, h5, h6, h7⟩ := h
  exact rnext_any h2 hx ho
theorem mid_wait (h : Mid B q r ac W0 t cs a b w) : Calls Try.prog 21 #[.pointer (some ⟨q, 0, none⟩)] w fun e w' => e = .returned (.int .i64 a.tx.length) ∧ w = w' := by
  obtain ⟨Φ, h1, h2, h3, h4, h5, h6, h7⟩ := h
  exact wait_any h1
theorem mid_taken (h : Mid B q r ac W0 t cs a b w) : Calls Try.prog 34 #[.pointer (some ⟨q, 0, none⟩)] w fun e w' => e = .returned (.int .i64 a.rx.length) ∧ w = w' := by
  obtain ⟨Φ, h1, h2, h3, h4, h5, h6, h7⟩ := h
  exact taken_any h1
end
theorem some_any (A : Option Addr) (n c : Nat) (w : World) (hn : n ≤ c) (hl : n ≤ maxLen) (hA : A = none → n = 0 ∧ c = 0) :
    Calls Try.prog 25 #[.slice A n c] w fun e w' => e = .returned (.slice A (min n 12) c) ∧ w = w' := by
  unfold maxLen at hl
  by_cases h : n ≤ 12
  · have h' : (n : Int) ≤ 12 := by omega
    go_enter Try.func25, Try.ntmps25
    go_wp2
    go_ret
    exact ⟨by rw [Nat.min_eq_left h]; rfl, rfl⟩
  · have h' : 12 ≤ (n : Int) := by omega
    have h2 : 12 ≤ (c : Int) := by omega
    have h3 : (12 : Int) < n := by omega
    rcases A with _ | A
    · obtain ⟨h4, -⟩ := hA rfl
      omega
    · go_enter Try.func25, Try.ntmps25
      go_wp2
      go_ret
      exact ⟨by rw [Nat.min_eq_right (by omega)]; rfl, rfl⟩
end Go.Proofs.Ytbmkfjgodgmjnaa
