/- The queue: Put, Next, Len. -/
import Derived.Test.YteecgdbicokgoaaA0
namespace Go.Proofs.Yteecgdbicokgoaa
open Go.RowKit
set_option linter.unusedVariables false
set_option linter.unusedSimpArgs false
set_option maxRecDepth 100000
/-- A packet: its kind, its code, its bytes, and the slice that holds these. -/
structure It where
  kind : Int
  code : Int
  A : Option Addr
  n : Nat
  c : Nat
  b : List Int
abbrev It.val (t : It) : Value := .agg #[.int .u8 t.kind, .int .u8 t.code, .slice t.A t.n t.c]
def It.cells (t : It) : List Value := [.int .u8 t.kind, .int .u8 t.code, .slice t.A t.n t.c]
def cellsL : List It → List Value
  | [] => []
  | t :: l => .int .u8 t.kind :: .int .u8 t.code :: .slice t.A t.n t.c :: cellsL l
theorem cellsL_len : ∀ l : List It, (cellsL l).length = l.length * 3
  | [] => rfl
  | t :: l => by simp only [cellsL, List.length_cons, cellsL_len l]; omega
theorem cellsL_app : ∀ l m : List It, cellsL (l ++ m) = cellsL l ++ cellsL m
  | [], m => rfl
  | t :: l, m => by simp [cellsL, cellsL_app l m]
theorem cellsL_drop : ∀ (l : List It) (k : Nat), (cellsL l).drop (k * 3) = cellsL (l.drop k)
  | l, 0 => by simp
  | [], k + 1 => by simp [cellsL]
  | t :: l, k + 1 => by
    rw [show (k + 1) * 3 = k * 3 + 1 + 1 + 1 by omega]
    simp only [cellsL, List.drop_succ_cons]
    exact cellsL_drop l k
theorem cellsL_get (l : List It) (k : Nat) (t : It) (h : l[k]? = some t) : (cellsL l)[k * 3]? = some (.int .u8 t.kind) ∧ (cellsL l)[k * 3 + 1]? = some (.int .u8 t.code) ∧ (cellsL l)[k * 3 + 2]? = some (.slice t.A t.n t.c) := by
  have hd := cellsL_drop l k
  obtain ⟨m, hm⟩ : ∃ m, l.drop k = t :: m := by
    obtain ⟨hk, e⟩ := List.getElem?_eq_some_iff.1 h
    exact ⟨l.drop (k + 1), by rw [List.drop_eq_getElem_cons hk, e]⟩
  rw [hm] at hd
  have g : ∀ j, (cellsL l)[k * 3 + j]? = (cellsL (t :: m))[j]? := fun j => by rw [← hd, List.getElem?_drop]
  exact ⟨(g 0).trans rfl, (g 1).trans rfl, (g 2).trans rfl⟩
theorem cellsL_one (l : List It) : ∀ u ∈ cellsL l, u.oneCell' = true := by
  induction l with
  | nil => intro u h; cases h
  | cons t l ih =>
    intro u h
    simp only [cellsL, List.mem_cons] at h
    rcases h with rfl | rfl | rfl | h
    · rfl
    · rfl
    · rfl
    · exact ih u h
/-- What a packet says. -/
def It.key (t : It) : Int × Int × List Int := (t.kind, t.code, t.b)
/-- Packets that can be read. -/
def ItRd (w : World) (l : List It) : Prop := ∀ t ∈ l, t.b.length = t.n ∧ t.n ≤ 1000000 ∧ (t.A = none → t.n = 0 ∧ t.c = 0) ∧ Rd w w.heap.size t.A (u8s t.b) ∧ t.n ≤ t.c ∧ t.c ≤ maxLen
/-- Packets whose bytes are the call's own. -/
def ItOk (w : World) (base : Nat) (l : List It) : Prop := ∀ t ∈ l, t.b.length = t.n ∧ t.n ≤ 1000000 ∧ Own w base 5 1 t.A t.n t.c (u8s t.b)
theorem ItOk.nil (w : World) (base : Nat) : ItOk w base [] := fun t h => by cases h
theorem ItOk.chg {F : Nat → Prop} {w w' : World} {base : Nat} {l : List It} (h : ItOk w base l) (hc : Chg F w w') (hF : ∀ g, F g → g < w.heap.size → ∃ t cs, Blk w g t cs ∧ t ≠ 5) : ItOk w' base l := fun t ht => by
  obtain ⟨h1, h2, h3⟩ := h t ht
  refine ⟨h1, h2, h3.chg hc fun g hg hf => ?_⟩
  obtain ⟨t', cs, hB, hne⟩ := hF g hf (h3.lt hg).2
  exact h3.ne_blk hg hB (fun e => hne e.symm) rfl
theorem ItOk.below {w w' : World} {base : Nat} {l : List It} (h : ItOk w base l) (hb : Below w.heap.size w w') : ItOk w' base l := fun t ht => by
  obtain ⟨h1, h2, h3⟩ := h t ht
  exact ⟨h1, h2, h3.below hb⟩
theorem ItRd.below {w w' : World} {l : List It} (h : ItRd w l) (hb : Below w.heap.size w w') : ItRd w' l := fun t ht => by
  obtain ⟨h1, h2, h3, h4, h5⟩ := h t ht
  exact ⟨h1, h2, h3, (h4.below hb).more hb.size, h5⟩
/-- The queue's own block. -/
def qcs (most : Int) (A : Option Addr) (n c : Nat) (lost : List Bool) : Array Value := (.int .i64 most :: .slice A n c :: lost.map Value.bool).toArray
structure Qs where
  most : Int
  l : List It
  lost : List Bool
/-- A queue in memory. -/
structure Qat (w : World) (base q : Nat) (A : Option Addr) (c : Nat) (s : Qs) : Prop where
  blk : Blk w q 127 (qcs s.most A s.l.length c s.lost)
  own : Own w base 82 3 A s.l.length c (cellsL s.l)
  its : ItOk w base s.l
  four : s.lost.length = 4
/-- What a call on a queue may write. -/
def qF (q : Nat) (A : Option Addr) (g : Nat) : Prop := g = q ∨ blkOf A = some g
theorem Qat.chg {F : Nat → Prop} {w w' : World} {base q : Nat} {A : Option Addr} {c : Nat} {s : Qs} (h : Qat w base q A c s) (hc : Chg F w w') (hq : ¬ F q) (hA : ∀ g, blkOf A = some g → ¬ F g) (hF : ∀ g, F g → g < w.heap.size → ∃ t cs, Blk w g t cs ∧ t ≠ 5) : Qat w' base q A c s :=
  ⟨h.blk.chg hc hq, h.own.chg hc hA, h.its.chg hc hF, h.four⟩
theorem Qat.below {w w' : World} {base q : Nat} {A : Option Addr} {c : Nat} {s : Qs} (h : Qat w base q A c s) (hb : Below w.heap.size w w') : Qat w' base q A c s :=
  ⟨h.blk.below hb, h.own.below hb, h.its.below hb, h.four⟩
theorem Qat.c0 {w : World} {base q : Nat} {A : Option Addr} {c : Nat} {s : Qs} (h : Qat w base q A c s) : w.cell? ⟨q, 0, none⟩ = some (.int .i64 s.most) ∧ w.cell? ⟨q, 1, none⟩ = some (.slice A s.l.length c) :=
  ⟨(h.blk.cell 0).trans rfl, (h.blk.cell 1).trans rfl⟩

theorem new_no (n : Int) (w : World) (h : n < 1 ∨ 64 < n) : Calls Try.prog 21 #[.int .i64 n] w fun e w' => e = .returned (.tuple #[.pointer none, .int .i64 1]) ∧ w = w' := by
  rcases h with h | h
  · go_enter Try.func21, Try.ntmps21
    go_wp2
    go_ret2
    exact ⟨rfl, rfl⟩
  · have h' : 1 ≤ n := by omega
    go_enter Try.func21, Try.ntmps21
    go_wp2
    go_ret2
    exact ⟨rfl, rfl⟩
theorem new_yes (n : Int) (w : World) (h1 : 1 ≤ n) (h2 : n ≤ 64) : Calls Try.prog 21 #[.int .i64 n] w fun e w' => ∃ q, e = .returned (.tuple #[.pointer (some ⟨q, 0, none⟩), .int .i64 0]) ∧ w.heap.size ≤ q ∧ (∀ base, Qat w' base q none 0 ⟨n, [], [false, false, false, false]⟩) ∧ Below w.heap.size w w' := by
  go_enter Try.func21, Try.ntmps21
  go_wp2
  go_ret2
  exact ⟨w.heap.size, rfl, Nat.le_refl _, fun base => ⟨Blk.new _ _ _, Own.nil _ _ _ _, ItOk.nil _ _, rfl⟩, (Below.refl _ _).alloc (Nat.le_refl _) _⟩
theorem len_nil (w : World) : Calls Try.prog 27 #[.pointer none] w fun e w' => e = .returned (.int .i64 0) ∧ w = w' := by
  go_enter Try.func27, Try.ntmps27
  go_wp2
  go_ret
  exact ⟨rfl, rfl⟩
theorem len_any {w : World} {base q : Nat} {A : Option Addr} {c : Nat} {s : Qs} (h : Qat w base q A c s) : Calls Try.prog 27 #[.pointer (some ⟨q, 0, none⟩)] w fun e w' => e = .returned (.int .i64 s.l.length) ∧ w = w' := by
  obtain ⟨h0, h1⟩ := h.c0
  go_enter Try.func27, Try.ntmps27
  go_wp2
  go_ret
  exact ⟨rfl, rfl⟩
/-- Has some packet a code that is too great? -/
def bad (l : List It) : Bool := l.any fun t => decide (64 ≤ t.code)
theorem big_any (t : It) (w : World) : Calls Try.prog 52 #[t.val] w fun e w' => e = .returned (.bool (decide (64 ≤ t.code))) ∧ Below w.heap.size w w' := by
  obtain ⟨kind, code, A, n, c, b⟩ := t
  go_enter Try.func52, Try.ntmps52
  go_wp2
  go_ret
  exact ⟨rfl, (Below.refl _ _).alloc (Nat.le_refl _) _⟩
theorem info5Q : (Try.prog.info? 5).map (fun i => (i.zero, i.size, i.bytes)) = some (some (.int .u8 0), 1, 1) := by kernel_rfl
theorem bad_at (l : List It) (k : Nat) (t : It) (h : l[k]? = some t) (hb : 64 ≤ t.code) : bad l = true := by
  simp only [bad, List.any_eq_true]
  exact ⟨t, List.mem_of_getElem? h, by simpa using hb⟩
theorem bad_no (l : List It) (h : ∀ (k : Nat) (t : It), l[k]? = some t → t.code < 64) : bad l = false := by
  rw [bad, List.any_eq_false]
  intro t ht
  obtain ⟨k, hk, rfl⟩ := List.mem_iff_getElem.1 ht
  have := h k _ (List.getElem?_eq_getElem hk)
  simp; omega
def IdxP (w : World) (l : List It) (e : Ending) (w' : World) : Prop := ∃ i : Int, e = .returned (.int .i64 i) ∧ decide (0 ≤ i) = bad l ∧ Below w.heap.size w w'
set_option maxHeartbeats 1000000 in
theorem index_any (A : Option Addr) (n c : Nat) (l : List It) (w : World) (hx : l.length = n) (hl : n ≤ maxLen) (hr : Rd w w.heap.size A (cellsL l)) :
    Calls Try.prog 72 #[.slice A n c, .func (.func 52) #[] #[]] w (IdxP w l) := by
  unfold maxLen at hl
  have HX := Lib.hid hx
  clear hx
  go_enter Try.func72, Try.ntmps72
  go_wp2
  go_loopw [8] (fun i wr => ∃ k : Nat, k ≤ n ∧ i = .int .i64 k ∧ (∀ (j : Nat) (t : It), j < k → l[j]? = some t → t.code < 64) ∧ Below w.heap.size w wr) (fun i _ => n - (intOf i).toNat)
  case atStart => exact ⟨0, Nat.zero_le _, rfl, fun j t h => by omega, Below.refl _ _⟩
  case round =>
    obtain ⟨k, hk, rfl, hno, hb⟩ := hrel
    have HNo := Lib.hid hno
    clear hno
    by_cases hlt : k < n
    · have hlt' : (k : Int) < n := by omega
      obtain ⟨t, ht⟩ : ∃ t, l[k]? = some t := ⟨_, List.getElem?_eq_getElem (by rw [HX.out]; exact hlt)⟩
      obtain ⟨b, o, rfl, -, hc⟩ := hr.below hb (by intro h; have h2 := cellsL_len l; rw [h, HX.out] at h2; simp at h2; omega)
      obtain ⟨g0, g1, g2⟩ := cellsL_get l k t ht
      have q0 := hc _ _ g0
      have q1 := hc _ _ g1
      have q2 := hc _ _ g2
      rw [← Nat.add_assoc] at q1 q2
      have HT := Lib.hid ht
      clear ht hc g0 g1 g2
      have hz := hb.size
      by_cases h64 : 64 ≤ t.code
      · have hd : decide (64 ≤ t.code) = true := by simpa using h64
        go_wp2_with (go_at_call 52; refine (big_any t _).mono ?_; rintro e w1 ⟨rfl, hb1⟩)
        go_ret
        exact ⟨k, rfl, by rw [bad_at l k t HT.out h64]; simp, hb.trans (hb1.mono hz)⟩
      · have hd : decide (64 ≤ t.code) = false := by simpa using h64
        go_wp2_with (go_at_call 52; refine (big_any t _).mono ?_; rintro e w1 ⟨rfl, hb1⟩)
        go_roundw
        case rel =>
          refine ⟨k + 1, by omega, by go_num, fun j t' hj h => ?_, hb.trans (hb1.mono hz)⟩
          rcases Nat.lt_or_ge j k with h' | h'
          · exact HNo.out j t' h' h
          · obtain rfl : j = k := by omega
            rw [HT.out] at h
            injection h with h
            subst h
            omega
        case measure => simp [intOf]; omega
    · obtain rfl : k = n := by omega
      go_wp2
      go_ret
      refine ⟨-1, rfl, ?_, hb⟩
      rw [bad_no l fun j t h => HNo.out j t (by rw [← HX.out]; exact (List.getElem?_eq_some_iff.1 h).1) h]
      rfl
theorem contains_any (A : Option Addr) (n c : Nat) (l : List It) (w : World) (hx : l.length = n) (hl : n ≤ maxLen) (hr : Rd w w.heap.size A (cellsL l)) :
    Calls Try.prog 51 #[.slice A n c, .func (.func 52) #[] #[]] w fun e w' => e = .returned (.bool (bad l)) ∧ Below w.heap.size w w' := by
  have C := Lib.hid (index_any A n c l w hx hl hr)
  go_enter Try.func51, Try.ntmps51
  go_wp2_with fail
  refine C.out.mono ?_
  rintro e w' ⟨i, rfl, hi, hb⟩
  have Hi := Lib.hid hi
  clear hi
  go_wp2_with fail
  go_ret
  exact ⟨ret_bool Hi.out, hb⟩
def RetBQ (w : World) (xs : List Int) (e : Ending) (w' : World) : Prop := ∃ A c, e = .returned (.slice A xs.length c) ∧ Own w' w.heap.size 5 1 A xs.length c (u8s xs) ∧ Below w.heap.size w w'
set_option maxHeartbeats 1000000 in
theorem clone_anyQ (A : Option Addr) (n c : Nat) (xs : List Int) (w : World) (hx : xs.length = n) (hr : Rd w w.heap.size A (u8s xs)) (hA : A = none → n = 0 ∧ c = 0) (hl : n ≤ 1000000) :
    Calls Try.prog 40 #[.slice A n c] w (RetBQ w xs) := by
  subst hx
  cases A with
  | none =>
    obtain ⟨h0, rfl⟩ := hA rfl
    obtain rfl : xs = [] := List.eq_nil_of_length_eq_zero h0
    have he := Lib.run_eql_slice_nil (P := Try.prog) w 22 5 none 0 0 0 0 Try.underlying22
    go_enter Try.func40, Try.ntmps40
    go_wp2
    go_ret
    exact ⟨none, 0, rfl, Own.nil _ _ _ _, Below.refl _ _⟩
  | some a =>
    have he := fun w => Lib.run_eql_slice_nil (P := Try.prog) w 22 5 (some a) xs.length c 0 0 Try.underlying22
    have hbel := (Below.refl w.heap.size w).alloc (Nat.le_refl _) (.cells #[] 5)
    have ho := Own.made (e := 5) (size := 1) w (Nat.le_refl _) #[] 0 0 (by decide) (by decide) rfl
    have hr' := hr.al (.cells #[] 5)
    clear hA
    go_enter Try.func40, Try.ntmps40
    go_wp2_with (at_builtin; refine wpList_app _ rfl (.tmp 5) (.tmp 6) 22 rfl w.heap.size 5 (.int .u8 0) 1 1 Try.underlying22 info5Q rfl (by decide) _ 0 0 [] rfl ho _ _ xs.length c _ rfl (by simp) hr' (u8s_one _) (by unfold maxLen; omega) (by omega) (by simp) ?_; intro A' c' w' hown hg hbk)
    go_ret
    simp only [Nat.zero_add, List.nil_append] at hown
    exact ⟨A', c', by simp, hown, bel_app hbel ho (Nat.le_refl _) hg⟩
theorem clone_n (A : Option Addr) (n c : Nat) (xs : List Int) (w : World) (hx : xs.length = n) (hr : Rd w w.heap.size A (u8s xs)) (hA : A = none → n = 0 ∧ c = 0) (hl : n ≤ 1000000) :
    Calls Try.prog 40 #[.slice A n c] w fun e w' => ∃ A' c', e = .returned (.slice A' n c') ∧ Own w' w.heap.size 5 1 A' n c' (u8s xs) ∧ Below w.heap.size w w' := by
  have := clone_anyQ A n c xs w hx hr hA hl
  subst hx
  exact this
theorem info31 : (Try.prog.info? 82).map (fun i => (i.zero, i.size, i.bytes)) = some (some (.agg #[.int .u8 0, .int .u8 0, .slice none 0 0]), 3, 32) := by kernel_rfl
theorem qcs_at (most : Int) (A : Option Addr) (n c : Nat) (lost : List Bool) (j : Nat) (b : Bool) (h : lost[j]? = some b) : (qcs most A n c lost)[2 + j]? = some (.bool b) := by
  rw [Nat.add_comm]
  simp [qcs, h]
theorem qcs_set (most : Int) (A : Option Addr) (n c : Nat) (lost : List Bool) (j : Nat) (b : Bool) : (qcs most A n c lost).setIfInBounds (2 + j) (.bool b) = qcs most A n c (lost.set j b) := by
  rw [Nat.add_comm]
  simp [qcs, List.map_set]
theorem qcs_l (most : Int) (A : Option Addr) (n c : Nat) (lost : List Bool) (A' : Option Addr) (n' c' : Nat) : (qcs most A n c lost).setIfInBounds 1 (.slice A' n' c') = qcs most A' n' c' lost := by
  simp [qcs]
theorem Qat.drewN {w : World} {base q : Nat} {A : Option Addr} {c : Nat} {s : Qs} (h : Qat w base q A c s) (n : Nat) : Qat (w.drewN n) base q A c s := h.below (bel_drewN (Below.refl _ _) n)
theorem Qat.lost_ {w : World} {base q : Nat} {A : Option Addr} {c : Nat} {s : Qs} (h : Qat w base q A c s) (j : Nat) (b : Bool) : Qat (w.setCell ⟨q, 2 + j, none⟩ (.bool b)) base q A c { s with lost := s.lost.set j b } := by
  have hc : Chg (fun g => g = q) w (w.setCell ⟨q, 2 + j, none⟩ (.bool b)) := (Chg.refl (fun g => g = q) _).at_ (q := q) (Eq.refl q) _ _
  refine ⟨?_, h.own.chg hc (fun g hg he => h.own.ne_blk hg h.blk (by decide) he), h.its.chg hc (fun g hg _ => by subst hg; exact ⟨127, _, h.blk, by decide⟩), by rw [List.length_set]; exact h.four⟩
  have := h.blk.set_ (2 + j) (.bool b)
  rw [qcs_set] at this
  exact this
theorem Rd.new (w : World) (vs : List Value) (t : TypeId) : Rd (w.alloc (.cells vs.toArray t)) (w.heap.size + 1) (some ⟨w.heap.size, 0, none⟩) vs := fun _ =>
  ⟨w.heap.size, 0, rfl, by omega, fun i v hv => by
    rw [World.cell?_alloc_at _ _ _ _ rfl]
    simpa using hv⟩
theorem take_snoc' {α : Type} (zs : List α) (k : Nat) (x : α) (h : zs[k]? = some x) : zs.take (k + 1) = zs.take k ++ [x] := by
  obtain ⟨hl, rfl⟩ := List.getElem?_eq_some_iff.1 h
  exact List.take_succ_eq_append_getElem hl
theorem cellsL_code : ∀ (l : List It) (t : It) (r : List It) (x : Int), (cellsL (l ++ t :: r)).set (l.length * 3 + 1) (.int .u8 x) = cellsL (l ++ { t with code := x } :: r)
  | [], t, r, x => rfl
  | u :: l, t, r, x => by
    rw [show (u :: l).length * 3 + 1 = (l.length * 3 + 1) + 1 + 1 + 1 by simp only [List.length_cons]; omega]
    simp only [List.cons_append, cellsL, List.set_cons_succ]
    rw [cellsL_code l t r x]
theorem three_one (x y : Int) (A : Option Addr) (n c : Nat) : ∀ u ∈ [Value.int .u8 x, .int .u8 y, .slice A n c], u.oneCell' = true := by
  intro u hu
  simp only [List.mem_cons, List.not_mem_nil, or_false] at hu
  rcases hu with rfl | rfl | rfl <;> rfl
/-- A packet behind the others. -/
theorem Qat.push {w w' : World} {base q : Nat} {A A' : Option Addr} {c c' : Nat} {s : Qs} (h : Qat w base q A c s) (hg : w.grownBy w' (blkOf A)) (t : It) (ho : Own w' base 82 3 A' (s.l.length + 1) c' (cellsL (s.l ++ [t])))
    (ht : t.b.length = t.n ∧ t.n ≤ 1000000 ∧ Own w base 5 1 t.A t.n t.c (u8s t.b)) : Qat (w'.setCell ⟨q, 1, none⟩ (.slice A' (s.l.length + 1) c')) base q A' c' { s with l := s.l ++ [t] } := by
  have hq := own_blk_ne h.own h.blk (by decide)
  have hB := h.blk.grown hg hq
  have hits : ItOk w' base (s.l ++ [t]) := by
    have h0 : ItOk w base (s.l ++ [t]) := fun u hu => by
      rcases List.mem_append.1 hu with hu | hu
      · exact h.its u hu
      · simp at hu; subst hu; exact ht
    intro u hu
    obtain ⟨h1, h2, h3⟩ := h0 u hu
    exact ⟨h1, h2, h3.grown hg (own_own_ne h3 h.own (by decide))⟩
  have hc : Chg (fun g => g = q) w' (w'.setCell ⟨q, 1, none⟩ (.slice A' (s.l.length + 1) c')) := (Chg.refl (fun g => g = q) _).at_ (q := q) (Eq.refl q) _ _
  refine ⟨?_, ?_, hits.chg hc (fun g hg _ => by subst hg; exact ⟨127, _, hB, by decide⟩), h.four⟩
  · have := hB.set_ 1 (.slice A' (s.l.length + 1) c')
    rw [qcs_l] at this
    rw [List.length_append]
    exact this
  · rw [List.length_append]
    exact ho.chg hc (fun g hg he => ho.ne_blk hg hB (by decide) he)
theorem Rd.chgN {F : Nat → Prop} {w w' : World} {B : Nat} {A : Option Addr} {vs : List Value} (h : Rd w B A vs) (hB : B ≤ w.heap.size) (hc : Chg F w w') (hg : ∀ g, blkOf A = some g → vs ≠ [] → ¬ F g) : Rd w' B A vs := fun hn => by
  obtain ⟨b, o, e, hb, hcell⟩ := h hn
  refine ⟨b, o, e, hb, fun i u hu => ?_⟩
  rw [← hcell i u hu]
  exact World.cell?_of_block (a := ⟨b, o + i, none⟩) (hc.block b (by omega) (hg b (by rw [e]; rfl) hn))
theorem put_nil (list : Int) (v : Value) (w : World) : Calls Try.prog 25 #[.pointer none, .int .i64 list, v] w fun e w' => e = .returned (.bool false) ∧ w = w' := by
  go_enter Try.func25, Try.ntmps25
  go_wp2
  go_ret
  exact ⟨rfl, rfl⟩
set_option maxRecDepth 100000 in
set_option maxHeartbeats 1000000 in
theorem put_noQ (q : Addr) (list : Int) (A : Option Addr) (n c : Nat) (l : List It) (w : World) (hx : l.length = n) (hl : n ≤ maxLen) (hr : Rd w w.heap.size A (cellsL l)) (h : list < 0 ∨ 4 ≤ list ∨ n = 0 ∨ bad l = true) :
    Calls Try.prog 25 #[.pointer (some q), .int .i64 list, .slice A n c] w fun e w' => e = .returned (.bool false) ∧ Below w.heap.size w w' := by
  have C := Lib.hid (contains_any A n c l w hx hl hr)
  by_cases h1 : list < 0
  · go_enter Try.func25, Try.ntmps25
    go_wp2_with fail
    go_ret
    exact ⟨rfl, Below.refl _ _⟩
  · have h1' : 0 ≤ list := by omega
    by_cases h2 : 4 ≤ list
    · go_enter Try.func25, Try.ntmps25
      go_wp2_with fail
      go_ret
      exact ⟨rfl, Below.refl _ _⟩
    · have h2' : list < 4 := by omega
      by_cases h3 : n = 0
      · subst h3
        go_enter Try.func25, Try.ntmps25
        go_wp2_with fail
        go_ret
        exact ⟨rfl, Below.refl _ _⟩
      · have h4 : bad l = true := by
          rcases h with h | h | h | h
          · omega
          · omega
          · omega
          · exact h
        rw [h4] at C
        have h3' : ((n : Int) == 0) = false := by simp; omega
        clear h h4
        go_enter Try.func25, Try.ntmps25
        go_wp2_with fail
        refine C.out.mono ?_
        rintro e w' ⟨rfl, hb⟩
        go_wp2_with fail
        go_ret
        exact ⟨rfl, hb⟩
set_option maxRecDepth 100000 in
set_option maxHeartbeats 1000000 in
theorem put_full (base q : Nat) (AQ : Option Addr) (cQ : Nat) (s : Qs) (j : Nat) (A : Option Addr) (n c : Nat) (l : List It) (w : World) (hQ : Qat w base q AQ cQ s) (hj : j < 4) (hx : l.length = n) (hn : 0 < n) (hl : n ≤ 1000000) (hr : Rd w w.heap.size A (cellsL l)) (hb : bad l = false)
    (hs : s.l.length ≤ 1000000) (hm : s.most < s.l.length + n) :
    Calls Try.prog 25 #[.pointer (some ⟨q, 0, none⟩), .int .i64 j, .slice A n c] w fun e w' => e = .returned (.bool false) ∧ Qat w' base q AQ cQ { s with lost := s.lost.set j true } ∧ Chg (fun g => g = q) w w' := by
  have C := Lib.hid (contains_any A n c l w hx (by unfold maxLen; omega) hr)
  rw [hb] at C
  have h3' : ((n : Int) == 0) = false := by simp; omega
  have h1' : 0 ≤ (j : Int) := by omega
  have h2' : (j : Int) < 4 := by omega
  clear hx hb
  go_enter Try.func25, Try.ntmps25
  go_wp2_with fail
  refine C.out.mono ?_
  rintro e w1 ⟨rfl, hb⟩
  have hQ1 := hQ.below hb
  obtain ⟨c0, c1⟩ := hQ1.c0
  have hf := hQ1.blk.frozen
  obtain ⟨b, hb4⟩ : ∃ b, s.lost[j]? = some b := ⟨_, List.getElem?_eq_getElem (by rw [hQ.four]; exact hj)⟩
  have cj : w1.cell? ⟨q, 2 + j, none⟩ = some (.bool b) := (hQ1.blk.cell _).trans (qcs_at _ _ _ _ _ _ _ hb4)
  have hw1 : IntKind.i64.wrap ((s.l.length : Int) + n) = (s.l.length : Int) + n := by rw [IntKind.wrap_i64]; omega
  clear hb4
  go_wp2_with fail
  go_quiet (fail)
  go_wp2_with fail
  go_ret
  exact ⟨rfl, (hQ1.drewN nq).lost_ j true, ((Chg.of_below hb (fun g => g = q)).drewN nq).at_ (q := q) (Eq.refl q) _ _⟩
def bumpK (b : Bool) : List (Int × Int × List Int) → List (Int × Int × List Int)
  | [] => []
  | (x, y, z) :: r => if b then (x, y + 64, z) :: r else (x, y, z) :: r
def PutP (w : World) (base q : Nat) (AQ : Option Addr) (s : Qs) (j : Nat) (l : List It) (e : Ending) (w' : World) : Prop := ∃ A' c' l', e = .returned (.bool true) ∧ Qat w' base q A' c' ⟨s.most, s.l ++ l', s.lost.set j false⟩ ∧ l'.map It.key = bumpK (s.lost.getD j false) (l.map It.key) ∧ Chg (qF q AQ) w w' ∧ (blkOf A' = blkOf AQ ∨ ∃ g, blkOf A' = some g ∧ w.heap.size ≤ g)
set_option maxRecDepth 100000 in
set_option maxHeartbeats 4000000 in
theorem put_ok (base q : Nat) (AQ : Option Addr) (cQ : Nat) (s : Qs) (j : Nat) (A : Option Addr) (n c : Nat) (l : List It) (w : World) (hQ : Qat w base q AQ cQ s) (hbase : base ≤ w.heap.size) (hj : j < 4) (hx : l.length = n) (hn : 0 < n) (hl : n ≤ 1000000) (hr : Rd w w.heap.size A (cellsL l)) (hit : ItRd w l) (hb : bad l = false) (hwf : ∀ t ∈ l, 0 ≤ t.code)
    (hin : ∀ g, (blkOf A = some g ∨ ∃ t ∈ l, t.b ≠ [] ∧ blkOf t.A = some g) → ¬ qF q AQ g) (hs : s.l.length ≤ 1000000) (hm : s.l.length + n ≤ s.most) :
    Calls Try.prog 25 #[.pointer (some ⟨q, 0, none⟩), .int .i64 j, .slice A n c] w (PutP w base q AQ s j l) := by
  have C := Lib.hid (contains_any A n c l w hx (by unfold maxLen; omega) hr)
  rw [hb] at C
  have h3' : ((n : Int) == 0) = false := by simp; omega
  have h1' : 0 ≤ (j : Int) := by omega
  have h2' : (j : Int) < 4 := by omega
  have hd1 : decide ((j : Int) < 0) = false := by simp
  have hd2 : decide (4 ≤ (j : Int)) = false := by simp; omega
  have HX := Lib.hid hx
  clear hx
  go_enter Try.func25, Try.ntmps25
  go_wp2_with fail
  refine C.out.mono ?_
  rintro e w1 ⟨rfl, hb1⟩
  have hQ1 := hQ.below hb1
  obtain ⟨c0, c1⟩ := hQ1.c0
  have hw1 : IntKind.i64.wrap ((s.l.length : Int) + n) = (s.l.length : Int) + n := by rw [IntKind.wrap_i64]; omega
  have hm' : ¬ s.most < (s.l.length : Int) + n := by omega
  have hm2 : (s.l.length : Int) + n ≤ s.most := by omega
  have hd : decide (s.most < (s.l.length : Int) + n) = false := by simpa using hm'
  go_wp2_with fail
  go_quiet (fail)
  have c0q : (w1.drewN nq).cell? ⟨q, 0, none⟩ = some (.int .i64 s.most) := c0
  have c1q : (w1.drewN nq).cell? ⟨q, 1, none⟩ = some (.slice AQ s.l.length cQ) := c1
  go_wp2_with fail
  have hQ2 := hQ1.drewN nq
  have hb2 := bel_drewN hb1 nq
  generalize w1.drewN nq = w2 at *
  clear c0 c1 c0q c1q hw1 hd hm2 hQ1 hb1
  have HK0 : Hid (([] : List It).map It.key = (l.take 0).map It.key) := rfl
  go_loopw [54] (fun i wr => ∃ (k : Nat) (A' : Option Addr) (c' : Nat) (l' : List It), k ≤ n ∧ i = .int .i64 k ∧ Qat wr base q A' c' ⟨s.most, s.l ++ l', s.lost⟩ ∧ l'.map It.key = (l.take k).map It.key ∧ Chg (qF q AQ) w wr ∧ (blkOf A' = blkOf AQ ∨ ∃ g, blkOf A' = some g ∧ w.heap.size ≤ g)) (fun i _ => n - (intOf i).toNat)
  case atStart => exact ⟨0, AQ, cQ, [], Nat.zero_le _, rfl, by simpa using hQ2, HK0.out, Chg.of_below hb2 _, .inl rfl⟩
  case round =>
    obtain ⟨k, A', c', l', hk, rfl, hQr, hkey, hch, hbk⟩ := hrel
    have HKey := Lib.hid hkey
    have hll : l'.length = k := by
      have := congrArg List.length hkey
      simpa [HX.out, hk] using this
    have HLL := Lib.hid hll
    clear hkey hll
    by_cases hlt : k < n
    · have hlt' : (k : Int) < n := by omega
      obtain ⟨t, ht⟩ : ∃ t, l[k]? = some t := ⟨_, List.getElem?_eq_getElem (by rw [HX.out]; exact hlt)⟩
      have htm := List.mem_of_getElem? ht
      obtain ⟨i1, i2, i3, i4, i5, i6⟩ := hit t htm
      have hrr : Rd wr w.heap.size A (cellsL l) := hr.chg (Nat.le_refl _) hch (fun g hg => hin g (.inl hg))
      obtain ⟨b, o, rfl, -, hc⟩ := hrr (by intro h; have h2 := cellsL_len l; rw [h, HX.out] at h2; simp at h2; omega)
      obtain ⟨g0, g1, g2⟩ := cellsL_get l k t ht
      have q0 := hc _ _ g0
      have q1 := hc _ _ g1
      have q2 := hc _ _ g2
      rw [← Nat.add_assoc] at q1 q2
      have hrt : Rd wr wr.heap.size t.A (u8s t.b) := (i4.chgN (Nat.le_refl _) hch (fun g hg hne => hin g (.inr ⟨t, htm, fun h => hne (by rw [h]; rfl), hg⟩))).more hch.size
      have HT := Lib.hid ht
      clear ht hc g0 g1 g2 hrr
      go_wp2_with fail
      refine (clone_n t.A t.n t.c t.b _ i1 (hrt.al _) i3 i2).mono ?_
      rintro e w3 ⟨A3, c3, rfl, ho3, hb3⟩
      have BR : Blk w3 wr.heap.size 82 #[.int .u8 t.kind, .int .u8 t.code, .slice t.A t.n t.c] := Blk.new_below hb3
      have hb3' := bel1 hb3
      have hQ3 := hQr.below hb3'
      have bc := BR.cell
      have bf := BR.frozen
      have HIT : Hid (t.b.length = t.n ∧ t.n ≤ 1000000 ∧ Own w3 base 5 1 A3 t.n c3 (u8s t.b)) := ⟨i1, i2, ho3.more (by simp; have := hch.size; omega)⟩
      have hz3 := hb3'.size
      obtain ⟨q0', q1'⟩ := hQ3.c0
      have qf := hQ3.blk.frozen
      go_wp2_with fail
      refine wp_named fun W hW => ?_
      have hcW : Chg (fun g => g = wr.heap.size) w3 W := by rw [hW]; exact (Chg.refl (fun g => g = wr.heap.size) _).at_ (q := wr.heap.size) (Eq.refl _) _ _
      have BRW : Blk W wr.heap.size 82 #[.int .u8 t.kind, .int .u8 t.code, .slice A3 t.n c3] := by rw [hW]; exact BR.set_ 2 _
      have hQW : Qat W base q A' c' ⟨s.most, s.l ++ l', s.lost⟩ := hQ3.chg hcW (fun e => by have := hQr.blk.lt; omega) (fun g hg e => by have := (hQr.own.lt hg).2; omega) (fun g hg _ => by subst hg; exact ⟨82, _, BR, by decide⟩)
      have HIW : Hid (t.b.length = t.n ∧ t.n ≤ 1000000 ∧ Own W base 5 1 A3 t.n c3 (u8s t.b)) := ⟨i1, i2, HIT.out.2.2.chg hcW (fun g hg e => HIT.out.2.2.ne_blk hg BR (by decide) e)⟩
      have hchW : Chg (qF q AQ) w W := (hch.grow hb3').trans hcW (fun i hi e => by have := hch.size; omega)
      have hzW : w.heap.size ≤ W.heap.size := hchW.size
      clear hW q0' q1' qf bc bf BR HIT hQ3 hcW hb3 hb3' hz3 ho3
      obtain ⟨q0', q1'⟩ := hQW.c0
      have q1a : ∀ o, (W.alloc o).cell? ⟨q, 1, none⟩ = some (.slice A' (s.l ++ l').length c') := fun o => ((hQW.blk.alloc o).cell 1).trans rfl
      have bc := BRW.cell
      have hqb := hQW.blk
      have hqo := hQW.own
      have hqn := own_blk_ne hqo hqb (by decide)
      have hbz : base ≤ W.heap.size := by omega
      have hLL : (s.l ++ l').length = s.l.length + k := by rw [List.length_append, HLL.out]
      have hLm : (s.l ++ l').length ≤ 2000000 := by omega
      clear hLL
      generalize hP : s.l ++ l' = P at *
      go_region_law (first
        | (refine step_app _ rfl (.tmp 66) (.tmp 68) 78 rfl base 82 (.agg #[.int .u8 0, .int .u8 0, .slice none 0 0]) 3 32 Try.underlying78 info31 rfl (by decide) A' P.length c' _ rfl ((hqo.alloc _).drew) _ _ 1 1 _ rfl rfl (Rd.new _ [.int .u8 t.kind, .int .u8 t.code, .slice A3 t.n c3] 82) (three_one _ _ _ _ _) (by unfold maxLen; omega) (by omega) (by simp only [World.size_drew, World.size_alloc]; omega) ?_; intro A5 c5 w5 ho5 hg5 hbk5; have B5 := ((hqb.alloc _).drew).grown hg5 hqn; have b5 : w5.cell? ⟨q, 1, none⟩ = some (.slice A' P.length c') := (B5.cell 1).trans rfl; have f5 := B5.frozen 1))
      all_goals
        go_wp2_with fail
        go_roundw
        case rel =>
          have hPd : Qat ((W.alloc (.cells #[.int .u8 t.kind, .int .u8 t.code, .slice A3 t.n c3] 82)).drew) base q A' c' ⟨s.most, P, s.lost⟩ := hQW.below (((Below.refl _ _).alloc (Nat.le_refl _) _).drew)
          have hI2 := HIW.out
          refine ⟨k + 1, A5, c5, l' ++ [⟨t.kind, t.code, A3, t.n, c3, t.b⟩], by omega, by go_num, ?_, ?_, ?_, ?_⟩
          · rw [← List.append_assoc, hP]
            refine Qat.push hPd hg5 ⟨t.kind, t.code, A3, t.n, c3, t.b⟩ ?_ ⟨hI2.1, hI2.2.1, (hI2.2.2.alloc _).drew⟩
            rw [cellsL_app]
            exact ho5
          · rw [List.map_append, HKey.out, take_snoc' l k t HT.out, List.map_append]
            rfl
          · refine (((hchW.alloc _).drew).trans (Chg.of_grown hg5) (fun i hi e => ?_)).at_ (.inl rfl) _ _
            rcases hbk with h | ⟨g, h, h2⟩
            · exact .inr (by rw [← h]; exact e.symm)
            · rw [h] at e
              injection e with e
              omega
          · rcases hbk5 with h | h
            · rw [h]; exact hbk
            · refine .inr ⟨_, h, ?_⟩
              simp only [World.size_drew, World.size_alloc]
              omega
        case measure => simp [intOf]; omega
    · obtain rfl : k = n := by omega
      have hkeys : l'.map It.key = l.map It.key := by rw [HKey.out, List.take_of_length_le (by rw [HX.out]; exact Nat.le_refl _)]
      obtain ⟨b, hb4⟩ : ∃ b, s.lost[j]? = some b := ⟨_, List.getElem?_eq_getElem (by rw [hQ.four]; exact hj)⟩
      have cj : wr.cell? ⟨q, 2 + j, none⟩ = some (.bool b) := (hQr.blk.cell _).trans (qcs_at _ _ _ _ _ _ _ hb4)
      have hbd : s.lost.getD j false = b := by rw [List.getD_eq_getElem?_getD, hb4]; rfl
      have HBD := Lib.hid hbd
      have HB4 := Lib.hid hb4
      have HKS := Lib.hid hkeys
      clear hkeys hbd hb4 HKey HK0
      cases b
      · go_wp2_with fail
        go_ret
        refine ⟨A', c', l', rfl, ?_, ?_, hch, hbk⟩
        · have : s.lost.set j false = s.lost := by
            apply List.ext_getElem?
            intro i
            by_cases h : j = i
            · subst h; rw [List.getElem?_set_self (by rw [hQ.four]; exact hj), HB4.out]
            · rw [List.getElem?_set_ne h]
          rw [this]
          exact hQr
        · rw [HBD.out, HKS.out]
          cases l with
          | nil => rfl
          | cons t l => rfl
      · obtain ⟨t, r, rfl⟩ : ∃ t r, l = t :: r := by
          cases l with
          | nil => have := HX.out; simp at this; omega
          | cons t r => exact ⟨t, r, rfl⟩
        obtain ⟨t', r', rfl⟩ : ∃ t' r', l' = t' :: r' := by
          cases l' with
          | nil => have := HLL.out; simp at this; omega
          | cons t r => exact ⟨t, r, rfl⟩
        have hk2 := HKS.out
        simp only [List.map_cons, List.cons.injEq] at hk2
        obtain ⟨hk3, hk4⟩ := hk2
        have hk5 : t'.kind = t.kind ∧ t'.code = t.code ∧ t'.b = t.b := by
          simp only [It.key, Prod.mk.injEq] at hk3; exact hk3
        have hc0 : 0 ≤ t'.code := by rw [hk5.2.1]; exact hwf t (by simp)
        have hc1 : t'.code < 64 := by
          rw [hk5.2.1]
          have := hb
          simp only [bad, List.any_cons, Bool.or_eq_false_iff, decide_eq_false_iff_not] at this
          omega
        have hlen : s.l.length < (s.l ++ t' :: r').length := by simp
        obtain ⟨g, off, rfl⟩ := hQr.own.at_ (by show 0 < (s.l ++ t' :: r').length; omega)
        have hget : (s.l ++ t' :: r')[s.l.length]? = some t' := by rw [List.getElem?_append_right (Nat.le_refl _)]; simp
        obtain ⟨-, k1, -⟩ := cellsL_get _ _ _ hget
        have cc : wr.cell? ⟨g, off + s.l.length * 3 + 1, none⟩ = some (.int .u8 t'.code) := by rw [Nat.add_assoc]; exact hQr.own.cells _ _ k1
        have hgq : ¬ g = q := fun e => hQr.own.ne_blk (g := g) rfl hQr.blk (by decide) e
        have hqg : ¬ q = g := fun e => hgq e.symm
        obtain ⟨q0', q1'⟩ := hQr.c0
        have qf := hQr.blk.frozen
        have gf := hQr.own.frozen
        have hlenI : (s.l.length : Int) < ((s.l ++ t' :: r').length : Int) := by omega
        have HK4 := Lib.hid hk4
        have HK5 := Lib.hid hk5
        have H1 : Qat (wr.setCell ⟨g, off + s.l.length * 3 + 1, none⟩ (.int .u8 (t'.code + 64))) base q (some ⟨g, off, none⟩) c' ⟨s.most, s.l ++ { t' with code := t'.code + 64 } :: r', s.lost⟩ := by
          have hc : Chg (fun i => i = g) wr (wr.setCell ⟨g, off + s.l.length * 3 + 1, none⟩ (.int .u8 (t'.code + 64))) := (Chg.refl (fun i => i = g) _).at_ (q := g) (Eq.refl g) _ _
          have hll : (s.l ++ { t' with code := t'.code + 64 } :: r').length = (s.l ++ t' :: r').length := by simp
          refine ⟨?_, ?_, ?_, hQr.four⟩
          · show Blk _ q 127 (qcs s.most _ _ c' s.lost)
            rw [hll]
            exact hQr.blk.chg hc hqg
          · show Own _ base 82 3 _ _ c' (cellsL _)
            rw [hll, ← cellsL_code, Nat.add_assoc]
            exact hQr.own.set_ (s.l.length * 3 + 1) (by show _ < (s.l ++ t' :: r').length * 3; omega) _
          · intro u hu
            have hu' : ∃ u0 ∈ s.l ++ t' :: r', u0.b = u.b ∧ u0.A = u.A ∧ u0.n = u.n ∧ u0.c = u.c := by
              rcases List.mem_append.1 hu with h | h
              · exact ⟨u, by simp [h], rfl, rfl, rfl, rfl⟩
              · rcases List.mem_cons.1 h with rfl | h
                · exact ⟨t', by simp, rfl, rfl, rfl, rfl⟩
                · exact ⟨u, by simp [h], rfl, rfl, rfl, rfl⟩
            obtain ⟨u0, hu0, e1, e2, e3, e4⟩ := hu'
            obtain ⟨x1, x2, x3⟩ := hQr.its u0 hu0
            rw [← e1, ← e2, ← e3, ← e4]
            exact ⟨x1, x2, x3.chg hc (fun i hi e => by
              subst e
              rcases own_own_ne x3 hQr.own (by decide) with h | h
              · rw [h] at hi; cases hi
              · exact h (by rw [hi]; rfl))⟩
        have H2 := Lib.hid (H1.lost_ j false)
        have H3 : Hid (Chg (qF q AQ) w ((wr.setCell ⟨g, off + s.l.length * 3 + 1, none⟩ (.int .u8 (t'.code + 64))).setCell ⟨q, 2 + j, none⟩ (.bool false))) := by
          refine Chg.at_ (hch.set_ (p := ⟨g, _, none⟩) (fun hlt => ?_) _) (.inl rfl) _ _
          rcases hbk with h | ⟨g', h, h2⟩
          · exact .inr h.symm
          · simp [blkOf] at h
            dsimp only at hlt
            omega
        clear H1 hk3 hk4 hk5 k1 hget hit hr hin C
        go_wp2_with fail
        go_ret
        refine ⟨_, c', _, rfl, H2.out, ?_, H3.out, hbk⟩
        rw [HBD.out, List.map_cons, HK4.out]
        show (_, _, _) :: _ = bumpK true ((_, _, _) :: _)
        rw [bumpK, HK5.out.1, HK5.out.2.1, HK5.out.2.2]
        rfl
abbrev noRep : Value := .agg #[.int .u8 0, .int .u8 0, .slice none 0 0]
set_option maxHeartbeats 1000000 in
theorem next_nil (w : World) : Calls Try.prog 28 #[.pointer none] w fun e w' => e = .returned (.tuple #[noRep, .bool false]) ∧ Below w.heap.size w w' := by
  go_enter Try.func28, Try.ntmps28
  go_wp2_with (go_at_call 27; refine (len_nil _).mono ?_; rintro e w' ⟨rfl, rfl⟩)
  refine bodyPost_ret (v := .tuple #[noRep, .bool false]) (by simp [results, Try.results28, go_sem]) rfl ⟨rfl, (Below.refl _ _).alloc (Nat.le_refl _) _⟩
set_option maxHeartbeats 1000000 in
theorem next_no {base q : Nat} {A : Option Addr} {c : Nat} {s : Qs} (w : World) (h : Qat w base q A c s) (hl : s.l = []) : Calls Try.prog 28 #[.pointer (some ⟨q, 0, none⟩)] w fun e w' => e = .returned (.tuple #[noRep, .bool false]) ∧ Below w.heap.size w w' := by
  have C := Lib.hid (fun o => len_any (w := w.alloc o) (h.below ((Below.refl _ _).alloc (Nat.le_refl _) o)))
  rw [hl] at C
  go_enter Try.func28, Try.ntmps28
  go_wp2_with (go_at_call 27; refine (C.out _).mono ?_; rintro e w' ⟨rfl, rfl⟩)
  refine bodyPost_ret (v := .tuple #[noRep, .bool false]) (by simp [results, Try.results28, go_sem]) rfl ⟨rfl, (Below.refl _ _).alloc (Nat.le_refl _) _⟩
def NextP (w : World) (base q : Nat) (A : Option Addr) (s : Qs) (t : It) (r : List It) (e : Ending) (w' : World) : Prop := ∃ A' c', e = .returned (.tuple #[t.val, .bool true]) ∧ Qat w' base q A' c' { s with l := r } ∧ blkOf A' = blkOf A ∧ Chg (fun g => g = q) w w'
theorem Qat.next {w : World} {base q : Nat} {A : Option Addr} {c : Nat} {s : Qs} {t : It} {r : List It} (h : Qat w base q A c s) (hl : s.l = t :: r) : Qat (w.setCell ⟨q, 1, none⟩ (.slice (if c = 1 then A else A.map (·.add 3)) r.length (c - 1))) base q (if c = 1 then A else A.map (·.add 3)) (c - 1) { s with l := r } := by
  have ho := h.own.cut (k := 1) (by rw [hl]; simp) (by decide)
  rw [hl] at ho
  have hn : (t :: r).length - 1 = r.length := by simp
  rw [hn, cellsL_drop] at ho
  have hc : Chg (fun g => g = q) w (w.setCell ⟨q, 1, none⟩ (.slice (if c = 1 then A else A.map (·.add 3)) r.length (c - 1))) := (Chg.refl (fun g => g = q) _).at_ (q := q) (Eq.refl q) _ _
  have hits : ItOk w base r := fun u hu => h.its u (by rw [hl]; simp [hu])
  refine ⟨?_, ho.chg hc (fun g hg he => ho.ne_blk hg h.blk (by decide) he), hits.chg hc (fun g hg _ => by subst hg; exact ⟨127, _, h.blk, by decide⟩), h.four⟩
  have := h.blk.set_ 1 (.slice (if c = 1 then A else A.map (·.add 3)) r.length (c - 1))
  rw [qcs_l] at this
  exact this
set_option maxHeartbeats 1000000 in
theorem next_yes {base q : Nat} {A : Option Addr} {c : Nat} {s : Qs} (w : World) (h : Qat w base q A c s) (t : It) (r : List It) (hl : s.l = t :: r) (hmx : s.l.length ≤ 1000000) : Calls Try.prog 28 #[.pointer (some ⟨q, 0, none⟩)] w (NextP w base q A s t r) := by
  have C := Lib.hid (fun o => len_any (w := w.alloc o) (h.below ((Below.refl _ _).alloc (Nat.le_refl _) o)))
  obtain ⟨g, off, rfl⟩ := h.own.at_ (by rw [hl]; simp)
  have hgt : s.l[0]? = some t := by rw [hl]; rfl
  obtain ⟨k0, k1, k2⟩ := cellsL_get _ _ _ hgt
  have d0 : ∀ o, (w.alloc o).cell? ⟨g, off, none⟩ = some (.int .u8 t.kind) := fun o => (h.own.alloc o).cells 0 _ k0
  have d1 : ∀ o, (w.alloc o).cell? ⟨g, off + 1, none⟩ = some (.int .u8 t.code) := fun o => (h.own.alloc o).cells 1 _ k1
  have d2 : ∀ o, (w.alloc o).cell? ⟨g, off + 2, none⟩ = some (.slice t.A t.n t.c) := fun o => (h.own.alloc o).cells 2 _ k2
  have hlen : s.l.length = r.length + 1 := by rw [hl]; simp
  have e0 : ((s.l.length : Int) == 0) = false := by rw [hlen]; simp; omega
  have e1 : (0 : Int) < (s.l.length : Int) := by rw [hlen]; omega
  have hcap : s.l.length ≤ c := h.own.2.1
  have hcm : c ≤ maxLen := h.own.2.2.1
  unfold maxLen at hcm
  obtain ⟨q0, q1⟩ := h.c0
  have q1a : ∀ o, (w.alloc o).cell? ⟨q, 1, none⟩ = some (.slice (some ⟨g, off, none⟩) s.l.length c) := fun o => ((h.blk.alloc o).cell 1).trans rfl
  have q1b : ∀ o o', ((w.alloc o).alloc o').cell? ⟨q, 1, none⟩ = some (.slice (some ⟨g, off, none⟩) s.l.length c) := fun o o' => (((h.blk.alloc o).alloc o').cell 1).trans rfl
  have qfa : ∀ o o', ((w.alloc o).alloc o').frozen? ⟨q, 1, none⟩ = false := fun o o' => ((h.blk.alloc o).alloc o').frozen 1
  clear k0 k1 k2 hgt
  have hb2 : ∀ o o', Below w.heap.size w ((w.alloc o).alloc o') := fun o o' => ((Below.refl _ _).alloc (Nat.le_refl _) _).alloc (by simp) _
  have HL := Lib.hid hl
  have HLen := Lib.hid hlen
  clear hlen hl
  have Hqlt := Lib.hid h.blk.lt
  obtain ⟨N, hN⟩ : ∃ N, s.l.length = N := ⟨_, rfl⟩
  have HQ : Hid (∀ cs cs' : Array Value, Qat (((w.alloc (.cells cs 82)).alloc (.cells cs' 82)).setCell ⟨q, 1, none⟩ (.slice (if c = 1 then some ⟨g, off, none⟩ else some ⟨g, off + 3, none⟩) r.length (c - 1))) base q (if c = 1 then some ⟨g, off, none⟩ else some ⟨g, off + 3, none⟩) (c - 1) { s with l := r }) := fun cs cs' => by
    have := (h.below (hb2 (.cells cs 82) (.cells cs' 82))).next HL.out
    have e : (some (⟨g, off, none⟩ : Addr)).map (·.add 3) = some ⟨g, off + 3, none⟩ := rfl
    rw [e] at this
    exact this
  by_cases h1 : c = 1
  case' pos =>
    subst h1
    simp only [if_true] at HQ
    have hN1 : s.l.length = 1 := by omega
    have hr0 : r.length = 0 := by have := HLen.out; omega
    rw [hr0] at HQ
    rw [hN1] at C e0 e1 q1 q1a q1b
    clear hN hN1 hr0
  case' neg =>
    simp only [if_neg h1] at HQ
    have hr0 : r.length = N - 1 := by have := HLen.out; omega
    rw [hr0] at HQ
    rw [hN] at C e0 e1 q1 q1a q1b hcap hmx
    have hN1 : (1 : Int) ≤ N := by omega
    have hN2 : 1 ≤ N := by omega
    clear hN hr0
  all_goals
    go_enter Try.func28, Try.ntmps28
    go_upto_region 5 with (go_at_call 27; refine (C.out _).mono ?_; rintro e w' ⟨rfl, rfl⟩)
    refine wp_named fun W hW => ?_
    have hqlt := Hqlt.out
    have BR : Blk W (w.heap.size + 1) 82 #[.int .u8 t.kind, .int .u8 t.code, .slice t.A t.n t.c] := by
      rw [hW]
      have := (Blk.new (w.alloc (.cells #[.int .u8 0, .int .u8 0, .slice none 0 0] 82)) 82 #[.int .u8 t.kind, .int .u8 t.code, .slice t.A t.n t.c])
      simp only [World.size_alloc] at this
      exact this.far (by dsimp only; omega) _
    have BZ : Blk W w.heap.size 82 #[.int .u8 0, .int .u8 0, .slice none 0 0] := by
      rw [hW]
      exact ((Blk.new w 82 #[.int .u8 0, .int .u8 0, .slice none 0 0]).alloc _).far (by dsimp only; omega) _
    have HQW := Lib.hid (HQ.out #[.int .u8 0, .int .u8 0, .slice none 0 0] #[.int .u8 t.kind, .int .u8 t.code, .slice t.A t.n t.c])
    rw [← hW] at HQW
    have hch : Chg (fun g => g = q) w W := by rw [hW]; exact (Chg.of_below (hb2 _ _) (fun g => g = q)).at_ (q := q) (Eq.refl q) _ _
    clear hW HQ q0 q1 q1a q1b qfa hb2 d0 d1 d2 C
    have b1 := BR.cell
    have b2 := BZ.cell
    have f2 := BZ.frozen
    go_wp2_with fail
    have hcZ : Chg (fun i => i = w.heap.size) W (((W.setCell ⟨w.heap.size, 0, none⟩ (.int .u8 t.kind)).setCell ⟨w.heap.size, 1, none⟩ (.int .u8 t.code)).setCell ⟨w.heap.size, 2, none⟩ (.slice t.A t.n t.c)) :=
      (((Chg.refl (fun i => i = w.heap.size) _).at_ (q := w.heap.size) (Eq.refl _) _ _).at_ (q := w.heap.size) (Eq.refl _) _ _).at_ (q := w.heap.size) (Eq.refl _) _ _
    have B3 := ((BZ.set_ 0 (.int .u8 t.kind)).set_ 1 (.int .u8 t.code)).set_ 2 (.slice t.A t.n t.c)
    have hQf := HQW.out.chg hcZ (by omega) (fun i hi e => by
      have : i = g := by simpa [blkOf] using hi.symm
      have h2 := (h.own.lt (g := g) rfl).2
      omega) (fun i hi _ => by subst hi; exact ⟨82, _, BZ, by decide⟩)
    have hcf : Chg (fun g => g = q) w (((W.setCell ⟨w.heap.size, 0, none⟩ (.int .u8 t.kind)).setCell ⟨w.heap.size, 1, none⟩ (.int .u8 t.code)).setCell ⟨w.heap.size, 2, none⟩ (.slice t.A t.n t.c)) := hch.trans hcZ (fun i hi e => by omega)
    generalize ((W.setCell ⟨w.heap.size, 0, none⟩ (.int .u8 t.kind)).setCell ⟨w.heap.size, 1, none⟩ (.int .u8 t.code)).setCell ⟨w.heap.size, 2, none⟩ (.slice t.A t.n t.c) = W3 at *
    have z0 : W3.cell? ⟨w.heap.size, 0, none⟩ = some (.int .u8 t.kind) := (B3.cell 0).trans rfl
    have z1 : W3.cell? ⟨w.heap.size, 1, none⟩ = some (.int .u8 t.code) := (B3.cell 1).trans rfl
    have z2 : W3.cell? ⟨w.heap.size, 2, none⟩ = some (.slice t.A t.n t.c) := (B3.cell 2).trans rfl
    refine bodyPost_ret (v := .tuple #[t.val, .bool true]) (by simp [results, Try.results28, go_sem, z0, z1, z2]) rfl ⟨_, _, rfl, hQf, rfl, hcf⟩
end Go.Proofs.Yteecgdbicokgoaa
