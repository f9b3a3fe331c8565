/- The program's lock: Unlock; Seed of any mode. -/
import Derived.Test.YteecgdbicokgoaaL3
namespace Go.Proofs.Yteecgdbicokgoaa
open Go.RowKit
set_option linter.unusedVariables false
set_option linter.unusedSimpArgs false
set_option maxRecDepth 100000
theorem wrong_step (d : Sd) (b : List Int) : wrongD { d with came := d.came ++ b } = (wrongD d || !decide (b = ((keyL d.s d.of).drop d.came.length).take b.length)) := by
  unfold wrongD
  show decide (d.came ++ b ≠ (keyL d.s d.of).take (d.came ++ b).length) = _
  rw [List.length_append, List.take_add]
  generalize hL : keyL d.s d.of = L
  rw [Bool.eq_iff_iff]
  simp only [decide_eq_true_eq, Bool.or_eq_true, Bool.not_eq_true', decide_eq_false_iff_not, ne_eq]
  by_cases h1 : d.came = L.take d.came.length
  · simp only [← h1, List.append_cancel_left_eq, not_true_eq_false, false_or]
  · simp only [h1, not_false_eq_true, true_or, iff_true]
    intro h2
    have hl : (L.take d.came.length).length = d.came.length ∨ L.length < d.came.length := by
      rw [List.length_take]; omega
    rcases hl with hl | hl
    · exact h1 (List.append_inj_left h2 hl.symm)
    · have e1 : L.take d.came.length = L := List.take_of_length_le (by omega)
      have e2 : L.drop d.came.length = [] := List.drop_of_length_le (by omega)
      rw [e1, e2] at h2
      have := congrArg List.length h2
      simp at this
      omega
theorem wrong_end (d : Sd) (hl : d.came.length = (keyL d.s d.of).length) : wrongD d = !decide (d.came = keyL d.s d.of) := by
  unfold wrongD
  rw [hl, List.take_length]
  by_cases h : d.came = keyL d.s d.of <;> simp [h]
def UnP (w : World) (B : Nat) (Φ : Nat → Prop) (l : Nat) (x : LX × Int) (e : Ending) (w' : World) : Prop := e = .returned (.int .i64 x.2) ∧ LAt w' B Φ l x.1 ∧ ChT B [109, 221] w w'
theorem unlock_nil (left : Int) (v : Value) (w : World) : Calls Try.prog 116 #[.pointer none, .int .i64 left, v] w fun e w' => e = .returned (.int .i64 2) ∧ w = w' := by
  go_enter Try.func116, Try.ntmps116
  go_wp2_with fail
  go_ret
  exact ⟨rfl, rfl⟩
theorem seed_nil (m r v : Value) (w : World) : Calls Try.prog 115 #[.pointer none, m, r, v] w fun e w' => e = .returned (.tuple #[.int .i64 0, .slice none 0 0, .int .i64 2]) ∧ w = w' := by
  go_enter Try.func115, Try.ntmps115
  go_wp2_with fail
  go_ret3
  exact ⟨rfl, rfl⟩
theorem seed_two {w : World} {B l : Nat} {Φ : Nat → Prop} {a : LX} (h : LAt w B Φ l a) (m res : Int) (v : Value) (hm : 1 < m) :
    Calls Try.prog 115 #[.pointer (some ⟨l, 0, none⟩), .int .u8 m, .int .u8 res, v] w (SeedP w B (fun _ => Φ) l (a, 0, [], 1)) := by
  go_enter Try.func115, Try.ntmps115
  go_wp2_with fail
  go_ret3
  exact ⟨none, 0, 0, rfl, rfl, Own.nil _ _ _ _, h, ChT.refl _ _ _⟩
theorem SeedP.imp {w w' : World} {B l : Nat} {Ψ Ψ' : World → Nat → Prop} {x : LX × Int × List Int × Int} {e : Ending} (h : SeedP w B Ψ l x e w') (hi : ∀ i, Ψ w' i → Ψ' w' i) : SeedP w B Ψ' l x e w' := by
  obtain ⟨A, m, c, h1, h2, h3, h4, h5⟩ := h
  exact ⟨A, m, c, h1, h2, h3, h4.imp hi, h5⟩
theorem seed_any {w : World} {B l : Nat} {Φ : Nat → Prop} {a : LX} (h : LAt w B Φ l a) (hB : B ≤ w.heap.size) (m res : Int) (hm : 0 ≤ m) (h0 : 0 ≤ res) (hr1 : res < 256) (A : Option Addr) (n c : Nat) (xs : List Int) (hx : xs.length = n) (hb : By B 5 w A (u8s xs)) (hu : by8 xs) :
    Calls Try.prog 115 #[.pointer (some ⟨l, 0, none⟩), .int .u8 m, .int .u8 res, .slice A n c] w (SeedP w B (fun w' i => Φ i ∨ (w.heap.size ≤ i ∧ i < w'.heap.size)) l (seedX a m res xs)) := by
  by_cases e0 : m = 0
  · subst e0
    exact seed_zero h hB res h0 hr1 A n c xs hx hb hu
  · by_cases e1 : m = 1
    · subst e1
      exact (seed_one h hB res _).mono fun e w' hs => hs.imp fun i hi => .inl hi
    · have : seedX a m res xs = (a, 0, [], 1) := by unfold seedX; rw [if_neg e0, if_neg e1]
      rw [this]
      exact (seed_two h m res _ (by omega)).mono fun e w' hs => hs.imp fun i hi => .inl hi
set_option maxRecDepth 100000 in
set_option maxHeartbeats 4000000 in
theorem unlock_no {w : World} {B l : Nat} {Φ : Nat → Prop} {a : LX} (h : LAt w B Φ l a) (left : Int) (A : Option Addr) (n c : Nat) (h0 : -9223372036854775808 ≤ left) (h1 : left ≤ 9223372036854775807) (hn : n ≤ maxLen)
    (hno : ∀ d, a.out = some d → ¬ (d.told = d.s.length ∧ left = ((d.s.length - d.came.length : Nat) : Int) ∧ (n : Int) = min left 6)) :
    Calls Try.prog 116 #[.pointer (some ⟨l, 0, none⟩), .int .i64 left, .slice A n c] w (UnP w B Φ l ({ a with out := none }, 90)) := by
  obtain ⟨h1', h2, p, hl, hm⟩ := h
  have c2 : w.cell? ⟨l, 2, none⟩ = some (.pointer p) := (hl.cell 2).trans rfl
  have cf := hl.frozen
  have HL : Hid (LAt (w.setCell ⟨l, 2, none⟩ (.pointer none)) B Φ l { a with out := none }) := Lib.hid ⟨h1', LX.ok_none h2, none, hl.set_ 2 _, rfl⟩
  have HC := Lib.hid ((ChT.refl B [109, 221] w).set_ (o := 2) hl (by simp) h1' (.pointer none))
  cases ho : a.out with
  | none =>
    rw [ho] at hm
    subst hm
    clear hno ho
    go_enter Try.func116, Try.ntmps116
    go_wp2_with fail
    go_ret
    exact ⟨rfl, HL.out, HC.out⟩
  | some d =>
    rw [ho] at hm
    obtain ⟨g, rfl, A1, c1, A2, n2, c2, A3, c3, hg, hb, h4, h5, -, -⟩ := hm
    have hno := hno d ho
    have hok := h2.out d ho
    have ht := hok.t
    obtain ⟨t1, ht1⟩ : ∃ t1, d.s.length - d.told = t1 := ⟨_, rfl⟩
    obtain ⟨t3, ht3⟩ : ∃ t3, d.s.length - d.came.length = t3 := ⟨_, rfl⟩
    rw [ht3] at hno
    have cg1 : w.cell? ⟨g, 1, none⟩ = some (.slice A1 t1 c1) := by rw [← ht1]; exact (hb.cell 1).trans rfl
    have cg3 : w.cell? ⟨g, 3, none⟩ = some (.slice A3 t3 c3) := by rw [← ht3]; exact (hb.cell 3).trans rfl
    have h20 := hok.s2
    by_cases e1 : t1 = 0
    · subst e1
      have e1' : d.told = d.s.length := by omega
      by_cases e2 : left = (t3 : Int)
      · have e3 : (n : Int) ≠ min left 6 := fun e => hno ⟨e1', e2, e⟩
        have ht20 : t3 ≤ 20 := by omega
        subst e2
        have hbs : (t3 : Int) ≤ 6 ∨ (6 : Int) < t3 := by omega
        clear hno ht1 ht3 ho e1' h5 h4 hok ht h20
        rcases hbs with hbs | hbs
        · have e4 : min (t3 : Int) 6 = (t3 : Int) := by omega
          rw [e4] at e3
          have e5 : ((n : Int) != (t3 : Int)) = true := by simpa using e3
          have e6 : ((n : Int) == (t3 : Int)) = false := by simpa using e3
          clear e3
          go_enter Try.func116, Try.ntmps116
          go_wp2_with fail
          go_ret
          exact ⟨rfl, HL.out, HC.out⟩
        · have e4 : min (t3 : Int) 6 = 6 := by omega
          rw [e4] at e3
          have e5 : ((n : Int) != 6) = true := by simpa using e3
          have e6 : ((n : Int) == 6) = false := by simpa using e3
          clear e3
          go_enter Try.func116, Try.ntmps116
          go_wp2_with fail
          go_ret
          exact ⟨rfl, HL.out, HC.out⟩
      · have e5 : (left != (t3 : Int)) = true := by simpa using e2
        have e6 : (left == (t3 : Int)) = false := by simpa using e2
        clear hno ht1 ht3 ho e1' h5 h4 hok ht h20 e2
        go_enter Try.func116, Try.ntmps116
        go_wp2_with fail
        go_ret
        exact ⟨rfl, HL.out, HC.out⟩
    · have e1' : 0 < t1 := by omega
      have e1'' : (0 : Int) < t1 := by omega
      clear hno ht1 ht3 ho h5 h4 hok ht h20
      go_enter Try.func116, Try.ntmps116
      go_wp2_with fail
      go_ret
      exact ⟨rfl, HL.out, HC.out⟩
end Go.Proofs.Yteecgdbicokgoaa
