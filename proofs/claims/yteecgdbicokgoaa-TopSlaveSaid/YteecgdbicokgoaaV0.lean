/- TopSlave: what reads and writes by commands answer. -/
import Derived.Test.YteecgdbicokgoaaRQ
import Derived.Test.YteecgdbicokgoaaK0
namespace Go.Proofs.Yteecgdbicokgoaa
open Go.RowKit Go.Shelf
set_option linter.unusedVariables false
set_option linter.unusedSimpArgs false
set_option maxRecDepth 100000
theorem least_of {P : Nat → Prop} (n : Nat) (h : P n) : ∃ j, j ≤ n ∧ P j ∧ ∀ i, i < j → ¬ P i := by
  induction n using Nat.strongRecOn with
  | _ n ih =>
    by_cases hj : ∃ j, j < n ∧ P j
    · obtain ⟨j, hj, hp⟩ := hj
      obtain ⟨i, h1, h2, h3⟩ := ih j hj hp
      exact ⟨i, by omega, h2, h3⟩
    · exact ⟨n, Nat.le_refl _, h, fun i hi hp => hj ⟨i, hi, hp⟩⟩
theorem parN7 {n k : Nat} : k < parN 7 n ↔ 7 * k < n := by unfold parN; omega
/-- A part of what is read. -/
theorem read_part {M : Mx} {area : Int} {pt n : Nat} {l : List Int} (h : readX M 2 area pt n = some l) {k : Nat} (hk : 7 * k < n) : readX M 2 area (pt + 7 * k) (min 7 (n - 7 * k)) = some ((l.drop (7 * k)).take 7) := by
  obtain ⟨r, h1, h2, h3⟩ := readX_some h
  unfold readX
  rw [h1]
  simp only []
  rw [if_pos (by omega), h3, List.drop_take, List.drop_drop, List.take_take]
theorem read_none {M : Mx} {area : Int} {pt n : Nat} (h : readX M 2 area pt n = none) (hn : 1 ≤ n) : ∃ k, 7 * k < n ∧ readX M 2 area (pt + 7 * k) (min 7 (n - 7 * k)) = none := by
  have h1 := readX_none h
  refine ⟨(n - 1) / 7, by omega, ?_⟩
  unfold readX
  rcases hr : rowI M 2 area with _ | r
  · rfl
  · have := h1 r hr
    simp only []
    rw [if_neg (by omega)]
theorem read_len {M : Mx} {area : Int} {pt n : Nat} {l : List Int} (h : readX M 2 area pt n = some l) : l.length = n := by
  obtain ⟨r, h1, h2, h3⟩ := readX_some h
  rw [h3, List.length_take, List.length_drop]
  omega
theorem flat_parts (l : List Int) : ∀ k, ((List.range k).map fun j => (l.drop (7 * j)).take 7).flatten = l.take (7 * k)
  | 0 => by simp
  | k + 1 => by
    rw [List.range_succ, List.map_append, List.flatten_append, flat_parts l k, Nat.mul_succ, List.take_add]
    simp
/-- The slave's state behind i parts that were read. -/
def stR (x : St) (area : Int) (pt n i : Nat) : St := if i = 0 then x else { x with block := 0, area := area, pt := (((pt + 7 * (i - 1) : Nat) : Int) + ((min 7 (n - 7 * (i - 1)) : Nat) : Int)) % 4294967296 }
theorem stR_M (x : St) (area : Int) (pt n i : Nat) : (stR x area pt n i).M = x.M ∧ (stR x area pt n i).a = x.a ∧ (stR x area pt n i).on = x.on := by unfold stR; split <;> exact ⟨rfl, rfl, rfl⟩
section
variable {w : World} {L T N s m l : Nat} {x : St}
theorem do_short (h : TA w L T N s m l x) (hon : x.on = true) {n : Nat} (h1 : 1 ≤ n) (h7 : n ≤ 7) {area : Int} (ha : 0 ≤ area ∧ area < 256) {pt : Nat} (hp : pt < 4294967296) (v : Value) {bs : List Int} (hr : readX x.M 2 area pt n = some bs) :
    Calls Try.prog 32 #[.pointer (some ⟨s, 0, none⟩), (cm 7 n area 0 0 0 pt).val, v] w (DoQ w L T s m l { x with block := 0, area := area, pt := ((pt : Int) + n) % 4294967296 } bs) :=
  have hw : (cm 7 n area 0 0 0 pt).wf := wfC (by decide) (by omega) ha (by omega) (Nat.le_refl _) (Nat.zero_le _)
  do_ansQ h (cm 7 n area 0 0 0 pt) hw (bb := []) rfl (Nat.zero_le _) Rd.nil (put_cm (.inr (.inr (.inr (.inl ⟨rfl, rfl⟩))))) (by show (7 : Int) < 18; decide) (by show (7 : Int) ≠ 9; decide) (.inl hon) v
    fun w1 N1 h1' hc => does_short h1' _ hw rfl (by show 1 ≤ (n : Int) ∧ (n : Int) ≤ 7; omega) v (by show readX x.M 2 area ((pt : Int).toNat) ((n : Int).toNat) = some bs; rw [Int.toNat_natCast, Int.toNat_natCast]; exact hr)
theorem do_short_no (h : TA w L T N s m l x) (hon : x.on = true) {n : Nat} (h1 : 1 ≤ n) (h7 : n ≤ 7) {area : Int} (ha : 0 ≤ area ∧ area < 256) {pt : Nat} (hp : pt < 4294967296) (v : Value) (hr : readX x.M 2 area pt n = none) :
    Calls Try.prog 32 #[.pointer (some ⟨s, 0, none⟩), (cm 7 n area 0 0 0 pt).val, v] w (DoN w L T s m l { x with block := 0, area := area, pt := (pt : Int) } 80) :=
  have hw : (cm 7 n area 0 0 0 pt).wf := wfC (by decide) (by omega) ha (by omega) (Nat.le_refl _) (Nat.zero_le _)
  do_flt h (cm 7 n area 0 0 0 pt) hw (bb := []) rfl (Nat.zero_le _) Rd.nil (put_cm (.inr (.inr (.inr (.inl ⟨rfl, rfl⟩))))) (by show (7 : Int) < 18; decide) (by show (7 : Int) ≠ 9; decide) (.inl hon) v (f := 80) (by decide)
    fun w1 N1 h1' hc => does_short_no h1' _ hw rfl (by show 1 ≤ (n : Int) ∧ (n : Int) ≤ 7; omega) v (by show readX x.M 2 area ((pt : Int).toNat) ((n : Int).toNat) = none; rw [Int.toNat_natCast, Int.toNat_natCast]; exact hr)
theorem rdL_at {area pt : Int} {n k j : Nat} {c : Cm} (h : (rdL area pt n k)[j]? = some c) : j < k ∧ c = rdC area pt n j := by
  unfold rdL at h
  rw [List.getElem?_map] at h
  rcases hr : (List.range k)[j]? with _ | i
  · rw [hr] at h; cases h
  · rw [hr] at h
    obtain ⟨hlt, hi⟩ := List.getElem?_eq_some_iff.1 hr
    rw [List.getElem_range] at hi
    rw [List.length_range] at hlt
    subst hi
    exact ⟨hlt, by simpa using h.symm⟩
theorem rdC_eq (area : Int) (pt n k : Nat) : rdC area pt n k = cm 7 ((min 7 (n - 7 * k) : Nat) : Int) area 0 0 0 ((pt + 7 * k : Nat) : Int) := by
  unfold rdC cmL
  simp
/-- All parts are there. -/
theorem get_yes (h : TA w L T N s m l x) (hon : x.on = true) {area : Int} (ha : 0 ≤ area ∧ area < 256) {pt n : Nat} (hp : pt < 1000) (hn1 : 1 ≤ n) (hn2 : n ≤ 112) {bs : List Int} (hr : readX x.M 2 area pt n = some bs)
    {A : Option Addr} {cc base : Nat} (hb : T ≤ base) (hO : Own w base 35 8 A (parN 7 n) cc (cmcells (rdL area pt n (parN 7 n)))) :
    Calls Try.prog 8 #[.pointer (some ⟨s, 0, none⟩), .slice A (parN 7 n) cc, .slice none 0 0] w fun e w' => ∃ A' c' vs bl y, e = .returned (.tuple #[.slice A' (parN 7 n) c', .int .u8 0]) ∧ TA w' L T w'.heap.size s m l y ∧ ChS L T w w' ∧ Own w' w.heap.size 22 1 A' (parN 7 n) c' vs ∧ RowsB w' w.heap.size vs bl ∧ bl.length = parN 7 n ∧ bl.flatten = bs := by
  have hk : parN 7 n ≤ 16 := by unfold parN; omega
  have hll : (rdL area pt n (parN 7 n)).length = parN 7 n := by simp [rdL]
  have D := does_okQ (w := w) (cl := rdL area pt n (parN 7 n)) (bl := (List.range (parN 7 n)).map fun j => (bs.drop (7 * j)).take 7) (xs := fun i => stR x area pt n i) (by rw [hll]; simp) (by rw [hll]; omega) (A := A) (c := cc) hb (by rw [hll]; exact hO) (.slice none 0 0) h
    (fun i c b hc hbi wr Nr hTA hch => by
      obtain ⟨hi, rfl⟩ := rdL_at hc
      have hi7 := parN7.1 hi
      have hbv : b = (bs.drop (7 * i)).take 7 := by
        rw [List.getElem?_map] at hbi
        rcases hrr : (List.range (parN 7 n))[i]? with _ | j
        · rw [hrr] at hbi; cases hbi
        · rw [hrr] at hbi
          obtain ⟨_, hj⟩ := List.getElem?_eq_some_iff.1 hrr
          rw [List.getElem_range] at hj
          subst hj
          simpa using hbi.symm
      subst hbv
      rw [rdC_eq]
      obtain ⟨s1, s2, s3⟩ := stR_M x area pt n i
      have := do_short hTA (by rw [s3]; exact hon) (n := min 7 (n - 7 * i)) (by omega) (by omega) ha (pt := pt + 7 * i) (by omega) (.slice none 0 0) (bs := (bs.drop (7 * i)).take 7) (by rw [s1]; exact read_part hr hi7)
      refine this.mono fun e w' hd => ?_
      have he : ({ stR x area pt n i with block := 0, area := area, pt := (((pt + 7 * i : Nat) : Int) + ((min 7 (n - 7 * i) : Nat) : Int)) % 4294967296 } : St) = stR x area pt n (i + 1) := by
        show _ = if i + 1 = 0 then _ else _
        rw [if_neg (by omega), Nat.add_sub_cancel]
        unfold stR
        split <;> rfl
      rw [he] at hd
      exact hd) ⟨_, _, _, rfl⟩
  rw [hll] at D
  refine D.mono ?_
  rintro e w' ⟨A', c', vs, rfl, hTA, hch, hO', hR⟩
  refine ⟨A', c', vs, _, _, rfl, hTA, hch, hO', hR, by simp, ?_⟩
  rw [flat_parts, List.take_of_length_le]
  rw [read_len hr]
  unfold parN
  omega
theorem get_not (h : TA w L T N s m l x) (hon : x.on = true) {area : Int} (ha : 0 ≤ area ∧ area < 256) {pt n : Nat} (hp : pt < 1000) (hn1 : 1 ≤ n) (hn2 : n ≤ 112) (hr : readX x.M 2 area pt n = none)
    {A : Option Addr} {cc base : Nat} (hb : T ≤ base) (hO : Own w base 35 8 A (parN 7 n) cc (cmcells (rdL area pt n (parN 7 n)))) :
    Calls Try.prog 8 #[.pointer (some ⟨s, 0, none⟩), .slice A (parN 7 n) cc, .slice none 0 0] w fun e w' => ∃ y, e = .returned (.tuple #[.slice none 0 0, .int .u8 80]) ∧ TA w' L T w'.heap.size s m l y ∧ ChS L T w w' := by
  have hk : parN 7 n ≤ 16 := by unfold parN; omega
  have hll : (rdL area pt n (parN 7 n)).length = parN 7 n := by simp [rdL]
  obtain ⟨k0, hk1, hk2⟩ := read_none hr hn1
  obtain ⟨j, hj0, ⟨hj1, hj2⟩, hj3⟩ := least_of (P := fun k => 7 * k < n ∧ readX x.M 2 area (pt + 7 * k) (min 7 (n - 7 * k)) = none) k0 ⟨hk1, hk2⟩
  have hjk := parN7.2 hj1
  have hsome : ∀ i, i < j → ∃ b, readX x.M 2 area (pt + 7 * i) (min 7 (n - 7 * i)) = some b := fun i hi => by
    rcases hx : readX x.M 2 area (pt + 7 * i) (min 7 (n - 7 * i)) with _ | b
    · exact absurd ⟨by omega, hx⟩ (hj3 i hi)
    · exact ⟨b, rfl⟩
  have D := does_noQ (w := w) (cl := rdL area pt n (parN 7 n)) (bl := (List.range j).map fun i => (readX x.M 2 area (pt + 7 * i) (min 7 (n - 7 * i))).getD []) (xs := fun i => stR x area pt n i) (y := { stR x area pt n j with block := 0, area := area, pt := ((pt + 7 * j : Nat) : Int) }) (f := 80) (by rw [hll]; simpa using hjk) (by rw [hll]; omega) (A := A) (c := cc) hb (by rw [hll]; exact hO) (.slice none 0 0) h
    (fun i c b hc hbi wr Nr hTA hch => by
      obtain ⟨hi, rfl⟩ := rdL_at hc
      rw [List.getElem?_map] at hbi
      rcases hrr : (List.range j)[i]? with _ | q
      · rw [hrr] at hbi; cases hbi
      · rw [hrr] at hbi
        obtain ⟨hlt, hq⟩ := List.getElem?_eq_some_iff.1 hrr
        rw [List.getElem_range] at hq
        rw [List.length_range] at hlt
        subst hq
        obtain ⟨b', hb'⟩ := hsome _ hlt
        have hbv : b = b' := by
          simp only [Option.map_some, Option.some.injEq] at hbi
          rw [hb'] at hbi
          simpa using hbi.symm
        subst hbv
        rw [rdC_eq]
        obtain ⟨s1, s2, s3⟩ := stR_M x area pt n i
        have := do_short hTA (by rw [s3]; exact hon) (n := min 7 (n - 7 * i)) (by omega) (by omega) ha (pt := pt + 7 * i) (by omega) (.slice none 0 0) (bs := b) (by rw [s1]; exact hb')
        refine this.mono fun e w' hd => ?_
        have he : ({ stR x area pt n i with block := 0, area := area, pt := (((pt + 7 * i : Nat) : Int) + ((min 7 (n - 7 * i) : Nat) : Int)) % 4294967296 } : St) = stR x area pt n (i + 1) := by
          show _ = if i + 1 = 0 then _ else _
          rw [if_neg (by omega), Nat.add_sub_cancel]
          unfold stR
          split <;> rfl
        rw [he] at hd
        exact hd) (by decide)
    (fun c hc wr Nr hTA hch => by
      rw [List.length_map, List.length_range] at hc hTA
      obtain ⟨hi, rfl⟩ := rdL_at hc
      rw [rdC_eq]
      obtain ⟨s1, s2, s3⟩ := stR_M x area pt n j
      exact do_short_no hTA (by rw [s3]; exact hon) (n := min 7 (n - 7 * j)) (by omega) (by omega) ha (pt := pt + 7 * j) (by omega) (.slice none 0 0) (by rw [s1]; exact hj2)) ⟨_, _, _, rfl⟩
  rw [hll] at D
  refine D.mono ?_
  rintro e w' ⟨rfl, hTA, hch⟩
  exact ⟨_, rfl, hTA, hch⟩
end
end Go.Proofs.Yteecgdbicokgoaa
