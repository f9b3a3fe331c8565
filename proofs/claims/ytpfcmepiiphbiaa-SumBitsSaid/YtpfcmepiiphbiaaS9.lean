/- SumZeros: the plain law; the walk. -/
import Derived.Test.YtpfcmepiiphbiaaS7
import Derived.Maps.Own
namespace Go.Proofs.Ytpfcmepiiphbiaa
open Go.RowKit Go.Maps
set_option linter.unusedVariables false
set_option linter.unusedSimpArgs false
theorem getD_left (xs ys : List Int) (j : Nat) (h : j < xs.length) : (xs ++ ys).getD j 0 = xs.getD j 0 := by
  rw [List.getD_eq_getElem?_getD, List.getD_eq_getElem?_getD, List.getElem?_append_left h]
theorem getD_right (xs ys : List Int) (j : Nat) : (xs ++ ys).getD (xs.length + j) 0 = ys.getD j 0 := by
  rw [List.getD_eq_getElem?_getD, List.getD_eq_getElem?_getD, List.getElem?_append_right (by omega), Nat.add_sub_cancel_left]
theorem foldN_left (B : Nat → Nat → Nat) (r : Nat) (xs ys : List Int) : ∀ j, j ≤ xs.length → foldN B r (xs ++ ys) j = foldN B r xs j
  | 0, _ => rfl
  | j + 1, h => by
    unfold foldN
    rw [foldN_left B r xs ys j (by omega), getD_left xs ys j (by omega)]
theorem foldN_app (B : Nat → Nat → Nat) (r : Nat) (xs ys : List Int) : ∀ j, foldN B r (xs ++ ys) (xs.length + j) = foldN B (foldN B r xs xs.length) ys j
  | 0 => by rw [Nat.add_zero, foldN_left B r xs ys _ (Nat.le_refl _)]; rfl
  | j + 1 => by
    show B (foldN B r (xs ++ ys) (xs.length + j)) ((xs ++ ys).getD (xs.length + j) 0).toNat = _
    rw [foldN_app B r xs ys j, getD_right]
    rfl
/-- The remainders, as folds. -/
def crc (B : Nat → Nat → Nat) (r : Nat) (xs : List Int) : Nat := foldN B r xs xs.length
theorem crc_app (B : Nat → Nat → Nat) (r : Nat) (xs ys : List Int) : crc B r (xs ++ ys) = crc B (crc B r xs) ys := by
  unfold crc
  rw [List.length_append, foldN_app]
theorem crc_cons (B : Nat → Nat → Nat) (r : Nat) (x : Int) (xs : List Int) : crc B r (x :: xs) = crc B (B r x.toNat) xs := by
  have := crc_app B r [x] xs
  exact this
theorem sum7 (xs : List Int) (big : Bool) (h : b8 xs) : sumV 7 xs big = (crc (lowB 40961) 0 xs, 0) := by
  have h1 := fold16_lt xs h xs.length
  unfold sumV
  rw [if_neg (by decide), if_pos (show xs.length % wdK 7 = 0 from Nat.mod_one _), show xs.length / wdK 7 = xs.length from Nat.div_one _, accK7]
  show (foldN (lowB 40961) 0 xs xs.length % 65536, (0 : Int)) = _
  rw [Nat.mod_eq_of_lt h1]
  rfl
theorem sum8 (xs : List Int) (big : Bool) (h : b8 xs) : sumV 8 xs big = (crc highB 65535 xs, 0) := by
  have h1 := foldHigh_lt 65535 (by decide) xs h xs.length
  unfold sumV
  rw [if_neg (by decide), if_pos (show xs.length % wdK 8 = 0 from Nat.mod_one _), show xs.length / wdK 8 = xs.length from Nat.div_one _, accK8]
  show (foldN highB 65535 xs xs.length % 65536, (0 : Int)) = _
  rw [Nat.mod_eq_of_lt h1]
  rfl
theorem sum9 (xs : List Int) (big : Bool) (h : b8 xs) : sumV 9 xs big = (4294967295 - crc (lowB 3988292384) 4294967295 xs, 0) := by
  unfold sumV
  rw [if_neg (by decide), if_pos (show xs.length % wdK 9 = 0 from Nat.mod_one _), show xs.length / wdK 9 = xs.length from Nat.div_one _, accK9]
  show ((4294967295 - foldN (lowB 3988292384) 4294967295 xs xs.length) % 4294967296, (0 : Int)) = _
  rw [Nat.mod_eq_of_lt (by omega)]
  rfl
theorem low_zero : lowB 40961 0 0 = 0 := by decide
theorem crc_zeros : ∀ (n : Nat), crc (lowB 40961) 0 (List.replicate n 0) = 0
  | 0 => rfl
  | n + 1 => by rw [List.replicate_succ, crc_cons]; show crc (lowB 40961) (lowB 40961 0 0) _ = 0; rw [low_zero, crc_zeros n]
theorem be_zeros : ∀ n : Nat, be (List.replicate n 0) = 0
  | 0 => rfl
  | n + 1 => by rw [List.replicate_succ', be_snoc, be_zeros n]; rfl
theorem wordV_zeros (n wd : Nat) (big : Bool) (t : Nat) : wordV (List.replicate n 0) wd big t = 0 := by
  unfold wordV takeB
  rw [List.drop_replicate, List.take_replicate, List.reverse_replicate, be_zeros]
  cases big <;> rfl
theorem addV_zeros (n wd : Nat) (big : Bool) : ∀ j, addV (List.replicate n 0) wd big j = 0
  | 0 => rfl
  | j + 1 => by unfold addV; rw [addV_zeros n wd big j, wordV_zeros]
theorem sum_ok (k : Nat) (hk : 1 ≤ k ∧ k ≤ 9) (xs : List Int) (big : Bool) (h : xs.length % 4 = 0) : ∃ v, sumV k xs big = (v, 0) := by
  obtain ⟨i, hi⟩ := wdK4 k hk xs.length h
  have hw : 0 < wdK k := by
    obtain rfl | rfl | rfl | rfl | rfl | rfl | rfl | rfl | rfl : k = 1 ∨ k = 2 ∨ k = 3 ∨ k = 4 ∨ k = 5 ∨ k = 6 ∨ k = 7 ∨ k = 8 ∨ k = 9 := by omega
    all_goals decide
  unfold sumV
  rw [if_neg (by omega), if_pos (by rw [hi]; exact Nat.mul_mod_right _ _)]
  exact ⟨_, rfl⟩
theorem wideK_bd (k : Nat) : 0 < wideK k ∧ wideK k ≤ 4294967296 := by
  unfold wideK
  split
  · omega
  · split <;> omega
theorem sumV_lt (k : Nat) (xs : List Int) (big : Bool) : (sumV k xs big).1 < 4294967296 := by
  unfold sumV
  split
  · show 0 < 4294967296; decide
  · split
    · show finK k _ < _
      unfold finK
      exact Nat.lt_of_lt_of_le (Nat.mod_lt _ (wideK_bd k).1) (wideK_bd k).2
    · show 0 < 4294967296; decide
/-- Bytes of 0 ahead change no sum that is added, nor Crc16. -/
theorem zeros_law (k : Nat) (hk : 1 ≤ k ∧ k ≤ 9) (hk8 : k ≠ 8) (hk9 : k ≠ 9) (s : List Int) (big : Bool) (hs : s.length % 4 = 0) (hu : b8 s) (Z : Nat) (hZ : Z % 4 = 0) :
    sumV k (List.replicate Z 0 ++ s) big = sumV k s big := by
  have hz8 : b8 (List.replicate Z 0) := fun x hx => by rw [List.eq_of_mem_replicate hx]; decide
  by_cases h7 : k = 7
  · subst h7
    rw [sum7 _ big (fun x hx => by rcases List.mem_append.1 hx with h | h; exact hz8 x h; exact hu x h), sum7 s big hu, crc_app, crc_zeros]
  · obtain ⟨i, hi⟩ := wdK4 k hk s.length hs
    obtain ⟨j, hj⟩ := wdK4 k hk Z hZ
    rw [sum_add k (by omega) s big i hi, sum_add k (by omega) _ big (j + i) (by rw [List.length_append, List.length_replicate, hi, hj, Nat.mul_add]),
      addV_app _ s _ big j (by rw [List.length_replicate, hj]) i, addV_zeros, Nat.zero_add]
theorem none_law (k : Nat) (hk : 1 ≤ k ∧ k ≤ 9) : sumV k [] false = ((if k = 8 then 65535 else 0), 0) := by
  obtain rfl | rfl | rfl | rfl | rfl | rfl | rfl | rfl | rfl : k = 1 ∨ k = 2 ∨ k = 3 ∨ k = 4 ∨ k = 5 ∨ k = 6 ∨ k = 7 ∨ k = 8 ∨ k = 9 := by omega
  all_goals decide
theorem zero43 (w : World) : (zeroValue 43).run Try.prog w = .ok (.int .u32 0) w := by kernel_rfl
/-- 'map[uint8]uint32{8: 65535}[k]', in its runs. -/
theorem map8_runs (W : World) (k : Nat) (hk : 1 ≤ k ∧ k ≤ 9) : ∃ w', (Instr.mapUpdate 50 (.map (some W.heap.size)) (.int .u8 8) (.int .u32 65535)).run Try.prog (W.alloc (.map #[] 0)) = .ok () w' ∧ Below W.heap.size W w' ∧
    (Instr.lookup 50 (.map (some W.heap.size)) (.int .u8 k) false).run Try.prog w' = .ok (.int .u32 ((if k = 8 then 65535 else 0 : Nat) : Int)) w' := by
  have h0 : (W.alloc (.map #[] 0)).ownsMap (H := Unit) Try.prog 5 (plainElem Try.prog 43) W.heap.size 0 (.map []) := World.ownsMap_made _ _ _ _
  obtain ⟨w', hrun, hown, hg⟩ := h0.update (int_keyed Try.underlying5) Try.underlying50 (by decide) (key := .int .u8 8) (kl := .int .u8 8) rfl (plainElem_int Try.underlying43 (show (Lit.int .u32 65535).wf = true by decide))
  obtain rfl | rfl | rfl | rfl | rfl | rfl | rfl | rfl | rfl : k = 1 ∨ k = 2 ∨ k = 3 ∨ k = 4 ∨ k = 5 ∨ k = 6 ∨ k = 7 ∨ k = 8 ∨ k = 9 := by omega
  · obtain ⟨c, hl, hat, -⟩ := hown.lookup_int (int_keyed Try.underlying5) Try.underlying50 Try.underlying43 (zero43 _) (key := .int .u8 1) (kl := .int .u8 1) rfl
    have h : (DataW.lit (Lit.int .u32 0) : DataW Unit) = .lit (.int .u32 c) := hat
    injection h with h
    injection h with _ h
    subst h
    exact ⟨w', hrun, (bl1 W _).grown hg (by simp) (fun k hk => by injection hk with hk; omega), hl⟩
  · obtain ⟨c, hl, hat, -⟩ := hown.lookup_int (int_keyed Try.underlying5) Try.underlying50 Try.underlying43 (zero43 _) (key := .int .u8 2) (kl := .int .u8 2) rfl
    have h : (DataW.lit (Lit.int .u32 0) : DataW Unit) = .lit (.int .u32 c) := hat
    injection h with h
    injection h with _ h
    subst h
    exact ⟨w', hrun, (bl1 W _).grown hg (by simp) (fun k hk => by injection hk with hk; omega), hl⟩
  · obtain ⟨c, hl, hat, -⟩ := hown.lookup_int (int_keyed Try.underlying5) Try.underlying50 Try.underlying43 (zero43 _) (key := .int .u8 3) (kl := .int .u8 3) rfl
    have h : (DataW.lit (Lit.int .u32 0) : DataW Unit) = .lit (.int .u32 c) := hat
    injection h with h
    injection h with _ h
    subst h
    exact ⟨w', hrun, (bl1 W _).grown hg (by simp) (fun k hk => by injection hk with hk; omega), hl⟩
  · obtain ⟨c, hl, hat, -⟩ := hown.lookup_int (int_keyed Try.underlying5) Try.underlying50 Try.underlying43 (zero43 _) (key := .int .u8 4) (kl := .int .u8 4) rfl
    have h : (DataW.lit (Lit.int .u32 0) : DataW Unit) = .lit (.int .u32 c) := hat
    injection h with h
    injection h with _ h
    subst h
    exact ⟨w', hrun, (bl1 W _).grown hg (by simp) (fun k hk => by injection hk with hk; omega), hl⟩
  · obtain ⟨c, hl, hat, -⟩ := hown.lookup_int (int_keyed Try.underlying5) Try.underlying50 Try.underlying43 (zero43 _) (key := .int .u8 5) (kl := .int .u8 5) rfl
    have h : (DataW.lit (Lit.int .u32 0) : DataW Unit) = .lit (.int .u32 c) := hat
    injection h with h
    injection h with _ h
    subst h
    exact ⟨w', hrun, (bl1 W _).grown hg (by simp) (fun k hk => by injection hk with hk; omega), hl⟩
  · obtain ⟨c, hl, hat, -⟩ := hown.lookup_int (int_keyed Try.underlying5) Try.underlying50 Try.underlying43 (zero43 _) (key := .int .u8 6) (kl := .int .u8 6) rfl
    have h : (DataW.lit (Lit.int .u32 0) : DataW Unit) = .lit (.int .u32 c) := hat
    injection h with h
    injection h with _ h
    subst h
    exact ⟨w', hrun, (bl1 W _).grown hg (by simp) (fun k hk => by injection hk with hk; omega), hl⟩
  · obtain ⟨c, hl, hat, -⟩ := hown.lookup_int (int_keyed Try.underlying5) Try.underlying50 Try.underlying43 (zero43 _) (key := .int .u8 7) (kl := .int .u8 7) rfl
    have h : (DataW.lit (Lit.int .u32 0) : DataW Unit) = .lit (.int .u32 c) := hat
    injection h with h
    injection h with _ h
    subst h
    exact ⟨w', hrun, (bl1 W _).grown hg (by simp) (fun k hk => by injection hk with hk; omega), hl⟩
  · obtain ⟨c, hl, hat, -⟩ := hown.lookup_int (int_keyed Try.underlying5) Try.underlying50 Try.underlying43 (zero43 _) (key := .int .u8 8) (kl := .int .u8 8) rfl
    have h : (DataW.lit (Lit.int .u32 65535) : DataW Unit) = .lit (.int .u32 c) := hat
    injection h with h
    injection h with _ h
    subst h
    exact ⟨w', hrun, (bl1 W _).grown hg (by simp) (fun k hk => by injection hk with hk; omega), hl⟩
  · obtain ⟨c, hl, hat, -⟩ := hown.lookup_int (int_keyed Try.underlying5) Try.underlying50 Try.underlying43 (zero43 _) (key := .int .u8 9) (kl := .int .u8 9) rfl
    have h : (DataW.lit (Lit.int .u32 0) : DataW Unit) = .lit (.int .u32 c) := hat
    injection h with h
    injection h with _ h
    subst h
    exact ⟨w', hrun, (bl1 W _).grown hg (by simp) (fun k hk => by injection hk with hk; omega), hl⟩
theorem made8 (n : Nat) : (madeCells (Value.cells (.int .u8 0)) (n * 1)).toList = u8s (List.replicate n 0) := by
  have e : (Value.cells (.int .u8 0)) = #[.int .u8 0] := rfl
  apply List.ext_getElem
  · simp [size_madeCells]
  · intro i h1 h2
    simp [madeCells, e, Nat.mod_one]
/-- make of bytes. -/
theorem wpList_make8 {w : World} {ops : Array Oper} {rest : List Oper} {o : Oper} {a : Act} {Q : Exit → Act → World → Prop} (hgd : o.guard = none) (l c : Operand)
    (ho : o.op = Op.makeSlice 25 l c) (base : Nat) (L : Int) (n : Nat) (hl : a.eval l = .int .i64 L) (hc : a.eval c = .int .i64 L) (hL : L = (n : Int)) (hn : n ≤ 1000000) (hb : base ≤ w.heap.size)
    (h : ∀ A w', Own w' base 5 1 A n n (u8s (List.replicate n 0)) → Below base w w' → wpList Try.prog ops Q rest (a.put o.dst (.slice A n n)) w') : wpList Try.prog ops Q (o :: rest) a w := by
  obtain ⟨i, hi, hz, hs, hby⟩ := info_parts info5
  refine wpList_make_full w hgd l c 25 ho base 5 i (.int .u8 0) 1 Try.underlying25 hi hz hs .i64 .i64 L L n hl hc hL hL (by rw [hby]; omega) (by unfold maxLen; omega) hb fun w' hr hg => h _ w' ?_ ((Below.refl _ _).grown hg hb (fun k hk => by cases hk))
  rw [made8] at hr
  obtain ⟨h1, ⟨h2, -⟩ | ⟨g, cap, cur, h2, h3, h4, h5, h6, h7, h8⟩⟩ := hr
  · cases h2
  · injection h2 with h2 h9 h10
    injection h2 with h2
    injection h2 with h2
    subst h10 h2
    refine ⟨h1, Nat.le_refl _, h6, (fun h => by cases h), fun a ha => ?_⟩
    injection ha with ha
    subst ha
    exact ⟨w.heap.size, 0, cur, rfl, h3, h4, by omega, by simpa using h8⟩
end Go.Proofs.Ytpfcmepiiphbiaa
