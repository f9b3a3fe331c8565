/- Queue.Next, Clear. -/
import Derived.Test.YtchneedpgpocnaaQ2
namespace Go.Proofs.Ytchneedpgpocnaa
open Go.RowKit
set_option linter.unusedVariables false
set_option linter.unusedSimpArgs false
abbrev noRep : Value := .agg #[.int .u8 0, .int .u8 0, .slice none 0 0]
set_option maxHeartbeats 1000000 in
theorem next_nil (w : World) : Calls Try.prog 10 #[.pointer none] w fun e w' => e = .returned (.tuple #[noRep, .bool false]) ∧ Below w.heap.size w w' := by
  go_enter Try.func10, Try.ntmps10
  go_wp2_with (go_at_call 13; refine (len_nil _).mono ?_; rintro e w' ⟨rfl, rfl⟩)
  refine bodyPost_ret (v := .tuple #[noRep, .bool false]) (by simp [results, Try.results10, go_sem]) rfl ⟨rfl, (Below.refl _ _).alloc (Nat.le_refl _) _⟩
set_option maxHeartbeats 1000000 in
theorem next_no {base q : Nat} {A : Option Addr} {c : Nat} {s : Qs} (w : World) (h : Qat w base q A c s) (hl : s.l = []) : Calls Try.prog 10 #[.pointer (some ⟨q, 0, none⟩)] w fun e w' => e = .returned (.tuple #[noRep, .bool false]) ∧ Below w.heap.size w w' := by
  have C := Lib.hid (fun o => len_any (w := w.alloc o) (h.below ((Below.refl _ _).alloc (Nat.le_refl _) o)))
  rw [hl] at C
  go_enter Try.func10, Try.ntmps10
  go_wp2_with (go_at_call 13; refine (C.out _).mono ?_; rintro e w' ⟨rfl, rfl⟩)
  refine bodyPost_ret (v := .tuple #[noRep, .bool false]) (by simp [results, Try.results10, go_sem]) rfl ⟨rfl, (Below.refl _ _).alloc (Nat.le_refl _) _⟩
def NextP (w : World) (base q : Nat) (A : Option Addr) (s : Qs) (t : It) (r : List It) (e : Ending) (w' : World) : Prop := ∃ A' c', e = .returned (.tuple #[t.val, .bool true]) ∧ Qat w' base q A' c' { s with l := r } ∧ blkOf A' = blkOf A ∧ Chg (fun g => g = q) w w'
theorem Qat.next {w : World} {base q : Nat} {A : Option Addr} {c : Nat} {s : Qs} {t : It} {r : List It} (h : Qat w base q A c s) (hl : s.l = t :: r) : Qat (w.setCell ⟨q, 1, none⟩ (.slice (if c = 1 then A else A.map (·.add 3)) r.length (c - 1))) base q (if c = 1 then A else A.map (·.add 3)) (c - 1) { s with l := r } := by
  have ho := h.own.cut (k := 1) (by rw [hl]; simp) (by decide)
  rw [hl] at ho
  have hn : (t :: r).length - 1 = r.length := by simp
  rw [hn, cellsL_drop] at ho
  have hc : Chg (fun g => g = q) w (w.setCell ⟨q, 1, none⟩ (.slice (if c = 1 then A else A.map (·.add 3)) r.length (c - 1))) := (Chg.refl (fun g => g = q) _).at_ (q := q) (Eq.refl q) _ _
  have hits : ItOk w base r := fun u hu => h.its u (by rw [hl]; simp [hu])
  refine ⟨?_, ho.chg hc (fun g hg he => ho.ne_blk hg h.blk (by decide) he), hits.chg hc (fun g hg _ => by subst hg; exact ⟨54, _, h.blk, by decide⟩), h.four⟩
  have := h.blk.set_ 1 (.slice (if c = 1 then A else A.map (·.add 3)) r.length (c - 1))
  rw [qcs_l] at this
  exact this
set_option maxHeartbeats 1000000 in
theorem next_yes {base q : Nat} {A : Option Addr} {c : Nat} {s : Qs} (w : World) (h : Qat w base q A c s) (t : It) (r : List It) (hl : s.l = t :: r) (hmx : s.l.length ≤ 1000000) : Calls Try.prog 10 #[.pointer (some ⟨q, 0, none⟩)] w (NextP w base q A s t r) := by
  have C := Lib.hid (fun o => len_any (w := w.alloc o) (h.below ((Below.refl _ _).alloc (Nat.le_refl _) o)))
  obtain ⟨g, off, rfl⟩ := h.own.at_ (by rw [hl]; simp)
  have hgt : s.l[0]? = some t := by rw [hl]; rfl
  obtain ⟨k0, k1, k2⟩ := cellsL_get _ _ _ hgt
  have d0 : ∀ o, (w.alloc o).cell? ⟨g, off, none⟩ = some (.int .u8 t.kind) := fun o => (h.own.alloc o).cells 0 _ k0
  have d1 : ∀ o, (w.alloc o).cell? ⟨g, off + 1, none⟩ = some (.int .u8 t.code) := fun o => (h.own.alloc o).cells 1 _ k1
  have d2 : ∀ o, (w.alloc o).cell? ⟨g, off + 2, none⟩ = some (.slice t.A t.n t.c) := fun o => (h.own.alloc o).cells 2 _ k2
  have hlen : s.l.length = r.length + 1 := by rw [hl]; simp
  have e0 : ((s.l.length : Int) == 0) = false := by rw [hlen]; simp; omega
  have e1 : (0 : Int) < (s.l.length : Int) := by rw [hlen]; omega
  have hcap : s.l.length ≤ c := h.own.2.1
  have hcm : c ≤ maxLen := h.own.2.2.1
  unfold maxLen at hcm
  obtain ⟨q0, q1⟩ := h.c0
  have q1a : ∀ o, (w.alloc o).cell? ⟨q, 1, none⟩ = some (.slice (some ⟨g, off, none⟩) s.l.length c) := fun o => ((h.blk.alloc o).cell 1).trans rfl
  have q1b : ∀ o o', ((w.alloc o).alloc o').cell? ⟨q, 1, none⟩ = some (.slice (some ⟨g, off, none⟩) s.l.length c) := fun o o' => (((h.blk.alloc o).alloc o').cell 1).trans rfl
  have qfa : ∀ o o', ((w.alloc o).alloc o').frozen? ⟨q, 1, none⟩ = false := fun o o' => ((h.blk.alloc o).alloc o').frozen 1
  clear k0 k1 k2 hgt
  have hb2 : ∀ o o', Below w.heap.size w ((w.alloc o).alloc o') := fun o o' => ((Below.refl _ _).alloc (Nat.le_refl _) _).alloc (by simp) _
  have HL := Lib.hid hl
  have HLen := Lib.hid hlen
  clear hlen hl
  have Hqlt := Lib.hid h.blk.lt
  obtain ⟨N, hN⟩ : ∃ N, s.l.length = N := ⟨_, rfl⟩
  have HQ : Hid (∀ cs cs' : Array Value, Qat (((w.alloc (.cells cs 31)).alloc (.cells cs' 31)).setCell ⟨q, 1, none⟩ (.slice (if c = 1 then some ⟨g, off, none⟩ else some ⟨g, off + 3, none⟩) r.length (c - 1))) base q (if c = 1 then some ⟨g, off, none⟩ else some ⟨g, off + 3, none⟩) (c - 1) { s with l := r }) := fun cs cs' => by
    have := (h.below (hb2 (.cells cs 31) (.cells cs' 31))).next HL.out
    have e : (some (⟨g, off, none⟩ : Addr)).map (·.add 3) = some ⟨g, off + 3, none⟩ := rfl
    rw [e] at this
    exact this
  by_cases h1 : c = 1
  case' pos =>
    subst h1
    simp only [if_true] at HQ
    have hN1 : s.l.length = 1 := by omega
    have hr0 : r.length = 0 := by have := HLen.out; omega
    rw [hr0] at HQ
    rw [hN1] at C e0 e1 q1 q1a q1b
    clear hN hN1 hr0
  case' neg =>
    simp only [if_neg h1] at HQ
    have hr0 : r.length = N - 1 := by have := HLen.out; omega
    rw [hr0] at HQ
    rw [hN] at C e0 e1 q1 q1a q1b hcap hmx
    have hN1 : (1 : Int) ≤ N := by omega
    have hN2 : 1 ≤ N := by omega
    clear hN hr0
  all_goals
    go_enter Try.func10, Try.ntmps10
    go_upto_region 5 with (go_at_call 13; refine (C.out _).mono ?_; rintro e w' ⟨rfl, rfl⟩)
    refine wp_named fun W hW => ?_
    have hqlt := Hqlt.out
    have BR : Blk W (w.heap.size + 1) 31 #[.int .u8 t.kind, .int .u8 t.code, .slice t.A t.n t.c] := by
      rw [hW]
      have := (Blk.new (w.alloc (.cells #[.int .u8 0, .int .u8 0, .slice none 0 0] 31)) 31 #[.int .u8 t.kind, .int .u8 t.code, .slice t.A t.n t.c])
      simp only [World.size_alloc] at this
      exact this.far (by dsimp only; omega) _
    have BZ : Blk W w.heap.size 31 #[.int .u8 0, .int .u8 0, .slice none 0 0] := by
      rw [hW]
      exact ((Blk.new w 31 #[.int .u8 0, .int .u8 0, .slice none 0 0]).alloc _).far (by dsimp only; omega) _
    have HQW := Lib.hid (HQ.out #[.int .u8 0, .int .u8 0, .slice none 0 0] #[.int .u8 t.kind, .int .u8 t.code, .slice t.A t.n t.c])
    rw [← hW] at HQW
    have hch : Chg (fun g => g = q) w W := by rw [hW]; exact (Chg.of_below (hb2 _ _) (fun g => g = q)).at_ (q := q) (Eq.refl q) _ _
    clear hW HQ q0 q1 q1a q1b qfa hb2 d0 d1 d2 C
    have b1 := BR.cell
    have b2 := BZ.cell
    have f2 := BZ.frozen
    go_wp2_with fail
    have hcZ : Chg (fun i => i = w.heap.size) W (((W.setCell ⟨w.heap.size, 0, none⟩ (.int .u8 t.kind)).setCell ⟨w.heap.size, 1, none⟩ (.int .u8 t.code)).setCell ⟨w.heap.size, 2, none⟩ (.slice t.A t.n t.c)) :=
      (((Chg.refl (fun i => i = w.heap.size) _).at_ (q := w.heap.size) (Eq.refl _) _ _).at_ (q := w.heap.size) (Eq.refl _) _ _).at_ (q := w.heap.size) (Eq.refl _) _ _
    have B3 := ((BZ.set_ 0 (.int .u8 t.kind)).set_ 1 (.int .u8 t.code)).set_ 2 (.slice t.A t.n t.c)
    have hQf := HQW.out.chg hcZ (by omega) (fun i hi e => by
      have : i = g := by simpa [blkOf] using hi.symm
      have h2 := (h.own.lt (g := g) rfl).2
      omega) (fun i hi _ => by subst hi; exact ⟨31, _, BZ, by decide⟩)
    have hcf : Chg (fun g => g = q) w (((W.setCell ⟨w.heap.size, 0, none⟩ (.int .u8 t.kind)).setCell ⟨w.heap.size, 1, none⟩ (.int .u8 t.code)).setCell ⟨w.heap.size, 2, none⟩ (.slice t.A t.n t.c)) := hch.trans hcZ (fun i hi e => by omega)
    generalize ((W.setCell ⟨w.heap.size, 0, none⟩ (.int .u8 t.kind)).setCell ⟨w.heap.size, 1, none⟩ (.int .u8 t.code)).setCell ⟨w.heap.size, 2, none⟩ (.slice t.A t.n t.c) = W3 at *
    have z0 : W3.cell? ⟨w.heap.size, 0, none⟩ = some (.int .u8 t.kind) := (B3.cell 0).trans rfl
    have z1 : W3.cell? ⟨w.heap.size, 1, none⟩ = some (.int .u8 t.code) := (B3.cell 1).trans rfl
    have z2 : W3.cell? ⟨w.heap.size, 2, none⟩ = some (.slice t.A t.n t.c) := (B3.cell 2).trans rfl
    refine bodyPost_ret (v := .tuple #[t.val, .bool true]) (by simp [results, Try.results10, go_sem, z0, z1, z2]) rfl ⟨_, _, rfl, hQf, rfl, hcf⟩
theorem clear_nil (w : World) : Calls Try.prog 18 #[.pointer none] w fun e w' => e = .returned (.tuple #[]) ∧ w = w' := by
  go_enter Try.func18, Try.ntmps18
  go_wp2
  go_end0
  exact ⟨rfl, rfl⟩
set_option maxHeartbeats 1000000 in
theorem clear_any {base q : Nat} {A : Option Addr} {c : Nat} {s : Qs} (w : World) (h : Qat w base q A c s) : Calls Try.prog 18 #[.pointer (some ⟨q, 0, none⟩)] w fun e w' => e = .returned (.tuple #[]) ∧ (∀ b, Qat w' b q none 0 ⟨s.most, [], [false, false, false, false]⟩) ∧ Chg (fun g => g = q) w w' := by
  obtain ⟨q0, q1⟩ := h.c0
  obtain ⟨most, l, lost⟩ := s
  obtain ⟨a0, a1, a2, a3, rfl⟩ : ∃ a0 a1 a2 a3, lost = [a0, a1, a2, a3] := by
    have h4 := h.four
    match lost, h4 with
    | [a0, a1, a2, a3], _ => exact ⟨a0, a1, a2, a3, rfl⟩
  have hB : Blk w q 54 #[.int .i64 most, .slice A l.length c, .bool a0, .bool a1, .bool a2, .bool a3] := h.blk
  have q2 : w.cell? ⟨q, 2, none⟩ = some (.bool a0) := (hB.cell 2).trans rfl
  have q3 : w.cell? ⟨q, 3, none⟩ = some (.bool a1) := (hB.cell 3).trans rfl
  have q4 : w.cell? ⟨q, 4, none⟩ = some (.bool a2) := (hB.cell 4).trans rfl
  have q5 : w.cell? ⟨q, 5, none⟩ = some (.bool a3) := (hB.cell 5).trans rfl
  have qf := hB.frozen
  go_enter Try.func18, Try.ntmps18
  go_wp2
  go_end0
  refine ⟨rfl, fun b => ⟨?_, Own.nil _ _ _ _, ItOk.nil _ _, rfl⟩, ?_⟩
  · exact (((((hB.set_ 0 _).set_ 1 _).set_ 2 _).set_ 3 _).set_ 4 _).set_ 5 _
  · exact (((((((Chg.refl (fun i => i = q) _).at_ (q := q) (Eq.refl _) _ _).at_ (q := q) (Eq.refl _) _ _).at_ (q := q) (Eq.refl _) _ _).at_ (q := q) (Eq.refl _) _ _).at_ (q := q) (Eq.refl _) _ _).at_ (q := q) (Eq.refl _) _ _)
end Go.Proofs.Ytchneedpgpocnaa
