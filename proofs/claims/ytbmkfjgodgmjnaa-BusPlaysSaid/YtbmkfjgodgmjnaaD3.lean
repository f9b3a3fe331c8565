/- The bus: boxes of both kinds, side by side. -/
import Derived.Test.YtbmkfjgodgmjnaaD2
import Derived.Test.YtbmkfjgodgmjnaaGrow
namespace Go.Proofs.Ytbmkfjgodgmjnaa
open Go.RowKit
set_option linter.unusedVariables false
set_option linter.unusedSimpArgs false
/-- Whatever calls on boxes may write. -/
def SA (c : Nat × Nat) : Prop := c.2 < 4
theorem SA.no9 : ¬ SA (0, 9) := by unfold SA; simp
theorem SA.no8 : ¬ SA (0, 8) := by unfold SA; simp
theorem SA.no7 : ¬ SA (0, 7) := by unfold SA; simp
theorem SA.ofD {D : Nat → Prop} : ∀ c, SD D c → SA c := fun c h => by unfold SA; have := h.2; omega
theorem SA.ofq {q : Nat} : ∀ c, Sq q c → SA c := fun c h => by unfold SA; have := h.2; omega
theorem SA.ofr {r : Nat} : ∀ c, Sr r c → SA c := fun c h => by unfold SA; unfold Sr at h; rw [h]; show (3 : Nat) < 4; omega
/-- The reference's boxes. -/
def Rbs (Φ : Who) (B : Nat) (w : World) (D : Nat → Prop) (t : Nat → Bx) : Prop := ∀ r, D r → RB Φ B w r (t r)
theorem Rbs.below {Φ : Who} {B : Nat} {w w' : World} {D : Nat → Prop} {t : Nat → Bx} (h : Rbs Φ B w D t) (hb : Below w.heap.size w w') : Rbs Φ B w' D t := fun q hq => (h q hq).below hb
theorem Rbs.ext {Φ Φ' : Who} {B : Nat} {w w' : World} {D : Nat → Prop} {t : Nat → Bx} {S : Nat × Nat → Prop} (h : Rbs Φ B w D t) (he : Ext B S Φ Φ' w w') (hS : ∀ r, D r → ¬ S (r, 3)) (h9 : ¬ S (0, 9)) : Rbs Φ' B w' D t := fun r hr => (h r hr).ext he (hS r hr) h9
theorem Rbs.upd {Φ Φ' : Who} {B : Nat} {w w' : World} {D : Nat → Prop} {t : Nat → Bx} {r : Nat} {a : Bx} (h : Rbs Φ B w D t) (he : Ext B (Sr r) Φ Φ' w w') (ha : RB Φ' B w' r a) : Rbs Φ' B w' D (upd t r a) := fun x hx => by
  by_cases hxr : x = r
  · subst hxr
    rw [upd_eq]
    exact ha
  · rw [upd_ne _ _ hxr]
    exact (h x hx).ext he (fun hh => hxr (by unfold Sr at hh; simpa using hh)) (Sr.no9 r)
theorem Ext.none_ {B : Nat} {Φ Φ' : Who} {w w' : World} (h : Ext B (fun _ => False) Φ Φ' w w') : Below w.heap.size w w' := ⟨h.2.2.os, h.2.2.tape, h.2.2.output, h.2.2.size, fun k hk => h.2.2.block k hk fun hh => hh.2⟩
/-- All that the laws hold: the program's boxes and their row, the reference's and theirs. -/
structure NS (B : Nat) (D D' : Nat → Prop) (W0 : World) (A : Option Addr) (L : List (Option Nat)) (A' : Option Addr) (L' : List (Option Nat)) (s t : Nat → Bx) (Φ : Who) (w : World) : Prop where
  p : Bxs Φ B w D s
  r : Rbs Φ B w D' t
  n : Nu Φ w
  rp : RdC Φ B w A (ptrs L)
  rr : RdC Φ B w A' (ptrs L')
  b : B ≤ w.heap.size
  bel : Below W0.heap.size W0 w
  b0 : W0.heap.size ≤ B
/-- What a call answers and leaves. -/
def CallP (B : Nat) (N : Who → World → Prop) (v : Value) (Φ : Who) (w : World) (e : Ending) (w' : World) : Prop := e = .returned v ∧ ∃ Φ', N Φ' w' ∧ Ext B SA Φ Φ' w w'
section
variable {B : Nat} {D D' : Nat → Prop} {W0 w w' : World} {A A' : Option Addr} {L L' : List (Option Nat)} {s t s2 t2 : Nat → Bx} {Φ Φ' : Who}
theorem NS.below (h : NS B D D' W0 A L A' L' s t Φ w) (hb : Below w.heap.size w w') : NS B D D' W0 A L A' L' s t Φ w' :=
  ⟨h.p.below hb, h.r.below hb, h.n.below hb, h.rp.below hb, h.rr.below hb, Nat.le_trans h.b hb.size, h.bel.trans (hb.mono h.bel.size), h.b0⟩
theorem NS.ofD {S : Nat → Prop} (h : NS B D D' W0 A L A' L' s t Φ w) (hx : Ext B (SD S) Φ Φ' w w') (hp : Bxs Φ' B w' D s2) : NS B D D' W0 A L A' L' s2 t Φ' w' ∧ Ext B SA Φ Φ' w w' :=
  ⟨⟨hp, h.r.ext hx (fun r _ => SD.nor S r) (SD.no9 S), hx.nu, h.rp.ext hx (SD.no9 S), h.rr.ext hx (SD.no9 S), Nat.le_trans h.b hx.size, h.bel.trans ((hx.below h.b).mono h.b0), h.b0⟩, hx.mono (Nat.le_refl _) SA.ofD⟩
theorem NS.ofr {r : Nat} (h : NS B D D' W0 A L A' L' s t Φ w) (hx : Ext B (Sr r) Φ Φ' w w') (hp : Rbs Φ' B w' D' t2) : NS B D D' W0 A L A' L' s t2 Φ' w' ∧ Ext B SA Φ Φ' w w' :=
  ⟨⟨h.p.ext hx (fun q j _ hj => Sr.noq r q j hj) (Sr.no9 r), hp, hx.nu, h.rp.ext hx (Sr.no9 r), h.rr.ext hx (Sr.no9 r), Nat.le_trans h.b hx.size, h.bel.trans ((hx.below h.b).mono h.b0), h.b0⟩, hx.mono (Nat.le_refl _) SA.ofr⟩
theorem NS.box (h : NS B D D' W0 A L A' L' s t Φ w) {q : Nat} (hq : D q) {a : Bx} {v : Value} {e : Ending} (hp : BxP Φ B w q a v e w') : CallP B (NS B D D' W0 A L A' L' (upd s q a) t) v Φ w e w' := by
  obtain ⟨he, Φ', g1, g2⟩ := hp
  have g3 := g2.mono (S' := SD D) (Nat.le_refl _) (SD.of hq)
  exact ⟨he, Φ', h.ofD g3 (h.p.upd g2 g1)⟩
theorem NS.rbox (h : NS B D D' W0 A L A' L' s t Φ w) {r : Nat} {a : Bx} {v : Value} {e : Ending} (hp : RbP Φ B w r a v e w') : CallP B (NS B D D' W0 A L A' L' s (upd t r a)) v Φ w e w' := by
  obtain ⟨he, g1, g2⟩ := hp
  exact ⟨he, Φ, h.ofr g2 (h.r.upd g2 g1)⟩
theorem ns_send (h : NS B D D' W0 A L A' L' s t Φ w) {q : Nat} (hq : D q) (f : Fr) (hf : f.wf) : Calls Try.prog 18 #[.pointer (some ⟨q, 0, none⟩), f.val] w (CallP B (NS B D D' W0 A L A' L' (upd s q (sendX (s q) f)) t) (.int .i64 (sendE (s q) f)) Φ w) :=
  (send_any (h.p q hq) h.b h.n f hf).mono fun e w' hp => h.box hq hp
theorem ns_rsend (h : NS B D D' W0 A L A' L' s t Φ w) {r : Nat} (hr : D' r) (f : Fr) (hf : f.wf) : Calls Try.prog 28 #[.pointer (some ⟨r, 0, none⟩), f.val] w (CallP B (NS B D D' W0 A L A' L' s (upd t r (rsendX (t r) f))) (.int .i64 (sendE (t r) f)) Φ w) :=
  (rsend_any (h.r r hr) h.b h.n f hf).mono fun e w' hp => h.rbox hp
theorem ns_over (h : NS B D D' W0 A L A' L' s t Φ w) {q : Nat} (hq : D q) : Calls Try.prog 24 #[.pointer (some ⟨q, 0, none⟩)] w (CallP B (NS B D D' W0 A L A' L' (upd s q { s q with lost := false }) t) (.bool (s q).lost) Φ w) :=
  (over_any (h.p q hq) h.n).mono fun e w' hp => h.box hq hp
theorem rx_nil (a : Bx) (h : a.rx = []) : ({ a with rx := a.rx.tail } : Bx) = a := by
  obtain ⟨x1, x2, x3, x4⟩ := a
  simp at h
  subst h
  rfl
theorem upd_self (s : Nat → Bx) (q : Nat) : upd s q (s q) = s := by
  funext x
  by_cases hxq : x = q
  · subst hxq; rw [upd_eq]
  · rw [upd_ne _ _ hxq]
theorem ns_recv (h : NS B D D' W0 A L A' L' s t Φ w) {q : Nat} (hq : D q) : Calls Try.prog 23 #[.pointer (some ⟨q, 0, none⟩)] w (CallP B (NS B D D' W0 A L A' L' (upd s q { s q with rx := (s q).rx.tail }) t) (.tuple #[((s q).rx.headD Fr.none_).val, .bool (!(s q).rx.isEmpty)]) Φ w) := by
  by_cases hx : (s q).rx = []
  · refine (recv_no (h.p q hq) hx).mono fun e w' hh => ⟨by rw [hx]; exact hh.1, Φ, ?_, Ext.of_below h.n hh.2⟩
    rw [rx_nil _ hx, upd_self]
    exact h.below hh.2
  · obtain ⟨x, l, hl⟩ : ∃ x l, (s q).rx = x :: l := by
      cases hl : (s q).rx with
      | nil => exact absurd hl hx
      | cons x l => exact ⟨x, l, rfl⟩
    have := (recv_yes (h.p q hq) h.n hl).mono fun e w' hp => h.box hq hp
    rw [hl]
    exact this
theorem ns_rrecv (h : NS B D D' W0 A L A' L' s t Φ w) {r : Nat} (hr : D' r) : Calls Try.prog 31 #[.pointer (some ⟨r, 0, none⟩)] w (CallP B (NS B D D' W0 A L A' L' s (upd t r { t r with rx := (t r).rx.tail })) (.tuple #[((t r).rx.headD Fr.none_).val, .bool (!(t r).rx.isEmpty)]) Φ w) := by
  by_cases hx : (t r).rx = []
  · rw [rx_nil _ hx, hx]
    exact (rrecv_no (h.r r hr) h.n hx).mono fun e w' hp => h.rbox hp
  · obtain ⟨x, l, hl⟩ : ∃ x l, (t r).rx = x :: l := by
      cases hl : (t r).rx with
      | nil => exact absurd hl hx
      | cons x l => exact ⟨x, l, rfl⟩
    have := (rrecv_yes (h.r r hr) h.b h.n hl).mono fun e w' hp => h.rbox hp
    rw [hl]
    exact this
theorem ns_put (h : NS B D D' W0 A L A' L' s t Φ w) {n c : Nat} (hD : ∀ q, some q ∈ L → D q) (hn : L.length = n) (hnc : n ≤ c) (hc : c ≤ maxLen) (f : Fr) (hf : f.wf) : Calls Try.prog 39 #[f.val, .slice A n c] w (CallP B (NS B D D' W0 A L A' L' (putK L s f n).1 t) (.int .i64 (putK L s f n).2) Φ w) :=
  (put_any h.p hD h.n h.b h.rp hn hnc hc f hf).mono fun e w' ⟨he, Φ', h1, h2⟩ => ⟨he, Φ', h.ofD h2 h1⟩
theorem ns_first (h : NS B D D' W0 A L A' L' s t Φ w) {n c : Nat} (hD : ∀ q, some q ∈ L → D q) (hn : L.length = n) (hnc : n ≤ c) (hc : c ≤ maxLen) : Calls Try.prog 38 #[.slice A n c] w fun e w' => e = .returned (.tuple #[.int .i64 (fstK L s n).1, (fstK L s n).2.1.val, .bool (fstK L s n).2.2]) ∧ Below w.heap.size w w' :=
  first_any h.p hD h.rp.rd hn hnc hc
/-- What a Turn tells and what the boxes say behind it. -/
def turnV (L : List (Option Nat)) (s : Nat → Bx) (n : Nat) : Nat × Fr × Bool := if (fstK L s n).2.2 then fstK L s n else (0, Fr.none_, false)
def turnS (L : List (Option Nat)) (s : Nat → Bx) (n : Nat) (lost : Bool) : Nat → Bx :=
  if (fstK L s n).2.2 then (match L[(fstK L s n).1]? with
    | some (some q) => afterT L s q (fstK L s n).1 n (fstK L s n).2.1 lost
    | _ => s) else s
theorem ns_turn (h : NS B D D' W0 A L A' L' s t Φ w) {n c : Nat} (lost : Bool) (hD : ∀ q, some q ∈ L → D q) (hn : L.length = n) (hnc : n ≤ c) (hc : c ≤ maxLen) : Calls Try.prog 37 #[.bool lost, .slice A n c] w (CallP B (NS B D D' W0 A L A' L' (turnS L s n lost) t) (.tuple #[.int .i64 (turnV L s n).1, (turnV L s n).2.1.val, .bool (turnV L s n).2.2]) Φ w) := by
  cases ho : (fstK L s n).2.2 with
  | false =>
    have e1 : turnV L s n = (0, Fr.none_, false) := by unfold turnV; rw [ho]; rfl
    have e2 : turnS L s n lost = s := by unfold turnS; rw [ho]; rfl
    rw [e1, e2]
    exact (turn_no lost h.p hD h.rp.rd hn hnc hc ho).mono fun e w' hh => ⟨hh.1, Φ, h.below hh.2, Ext.of_below h.n hh.2⟩
  | true =>
    obtain ⟨q, hq, -⟩ := fstK_some L s n ho
    have e1 : turnV L s n = fstK L s n := by unfold turnV; rw [ho]; rfl
    have e2 : turnS L s n lost = afterT L s q (fstK L s n).1 n (fstK L s n).2.1 lost := by unfold turnS; rw [ho, hq]; rfl
    rw [e1, e2, ho]
    exact (turn_yes lost h.p hD h.n h.b h.rp hn hnc hc (a := (fstK L s n).1) (q := q) (f := (fstK L s n).2.1) (by rw [← ho]) hq).mono fun e w' ⟨he, Φ', h1, h2⟩ => ⟨he, Φ', h.ofD h2 h1⟩
theorem ns_wait (h : NS B D D' W0 A L A' L' s t Φ w) {q : Nat} (hq : D q) : Calls Try.prog 21 #[.pointer (some ⟨q, 0, none⟩)] w fun e w' => e = .returned (.int .i64 (s q).tx.length) ∧ w = w' := wait_any (h.p q hq)
theorem ns_taken (h : NS B D D' W0 A L A' L' s t Φ w) {q : Nat} (hq : D q) : Calls Try.prog 34 #[.pointer (some ⟨q, 0, none⟩)] w fun e w' => e = .returned (.int .i64 (s q).rx.length) ∧ w = w' := taken_any (h.p q hq)
/-- A node of the row. -/
theorem NS.node (h : NS B D D' W0 A L A' L' s t Φ w) {k : Nat} {x : Option Nat} (hk : L[k]? = some x) : ∃ g o, A = some ⟨g, o, none⟩ ∧ ∀ w', Below w.heap.size w w' → w'.cell? ⟨g, o + k, none⟩ = some (ptr x) := by
  have hne : ptrs L ≠ [] := fun e => by have := ptrs_get hk; rw [e] at this; simp at this
  obtain ⟨g, o, ea, hg, -, hc⟩ := h.rp hne
  exact ⟨g, o, ea, fun w' hb => (hb.cell (p := ⟨g, o + k, none⟩) hg).trans (hc k _ (ptrs_get hk))⟩
theorem NS.rnode (h : NS B D D' W0 A L A' L' s t Φ w) {k : Nat} {x : Option Nat} (hk : L'[k]? = some x) : ∃ g o, A' = some ⟨g, o, none⟩ ∧ ∀ w', Below w.heap.size w w' → w'.cell? ⟨g, o + k, none⟩ = some (ptr x) := by
  have hne : ptrs L' ≠ [] := fun e => by have := ptrs_get hk; rw [e] at this; simp at this
  obtain ⟨g, o, ea, hg, -, hc⟩ := h.rr hne
  exact ⟨g, o, ea, fun w' hb => (hb.cell (p := ⟨g, o + k, none⟩) hg).trans (hc k _ (ptrs_get hk))⟩
/-- Another row of nodes, just laid. -/
theorem NS.row (h : NS B D D' W0 A L A' L' s t Φ w) (L2 : List (Option Nat)) (ty : TypeId) : NS B D D' W0 (some ⟨w.heap.size, 0, none⟩) L2 A' L' s t Φ (w.alloc (.cells (ptrs L2).toArray ty)) := by
  have hb := bl1 w (.cells (ptrs L2).toArray ty)
  have h' := h.below hb
  refine ⟨h'.p, h'.r, h'.n, fun _ => ⟨w.heap.size, 0, rfl, by simp, .inr (h.n _ (Nat.le_refl _)), fun i u hu => ?_⟩, h'.rr, h'.b, h'.bel, h'.b0⟩
  rw [(Blk.new w ty (ptrs L2).toArray).cell, Nat.zero_add]
  simpa using hu
end
end Go.Proofs.Ytbmkfjgodgmjnaa
