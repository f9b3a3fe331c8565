/- TopUnlock: the key's commands, the write's commands. -/
import Derived.Test.YteecgdbicokgoaaU0
import Derived.Test.YteecgdbicokgoaaP3
namespace Go.Proofs.Yteecgdbicokgoaa
open Go.RowKit Go.Shelf
set_option linter.unusedVariables false
set_option linter.unusedSimpArgs false
set_option maxRecDepth 100000
theorem outD_pix (TL : Int → Int → Int) (b : List Int) (n : Nat) : ∀ k, (∀ j, j < k → 6 * j < n) → outD TL b n (pixL 6 n k) = (((n - min (6 * k) n : Nat) : Int), (List.range k).map fun j => (IntKind.u8.wrap (TL ((min 6 (n - 6 * j) : Nat) : Int) ((n - 6 * j : Nat) : Int)), pixB b j))
  | 0, _ => by simp [pixL, outD]
  | k + 1, h => by
    have hk := h k (by omega)
    rw [pixL_succ hk, outD_snoc, outD_pix TL b n k fun j hj => h j (by omega), List.range_succ, List.map_append]
    have e1 : n - min (6 * k) n = n - 6 * k := by omega
    unfold outS pixN
    rw [e1]
    simp only [List.map_cons, List.map_nil, Prod.mk.injEq, and_true]
    omega
theorem parN_lt {n k : Nat} : k < parN 6 n ↔ 6 * k < n := by unfold parN; omega
theorem allD_eq (TL : Int → Int → Int) (b : List Int) : allD TL b = (List.range (parN 6 b.length)).map fun j => (IntKind.u8.wrap (TL ((min 6 (b.length - 6 * j) : Nat) : Int) ((b.length - 6 * j : Nat) : Int)), pixB b j) := by
  unfold allD
  rw [outD_pix TL b b.length _ fun j hj => parN_lt.1 hj]
theorem kb_at {TL : Int → Int → Int} {b : List Int} {cl : List Kb} (h : cl.map (fun x => (x.1.a0, x.2)) = allD TL b) {k : Nat} {y : Kb} (hy : cl[k]? = some y) : 6 * k < b.length ∧ y.1.a0 = IntKind.u8.wrap (TL ((min 6 (b.length - 6 * k) : Nat) : Int) ((b.length - 6 * k : Nat) : Int)) ∧ y.2 = pixB b k := by
  have h1 : (cl.map (fun x => (x.1.a0, x.2)))[k]? = some (y.1.a0, y.2) := by rw [List.getElem?_map, hy]; rfl
  rw [h, allD_eq, List.getElem?_map] at h1
  rcases hr : (List.range (parN 6 b.length))[k]? with _ | j
  · rw [hr] at h1; cases h1
  · rw [hr] at h1
    have hj := List.getElem?_eq_some_iff.1 hr
    obtain ⟨hlt, hj⟩ := hj
    rw [List.getElem_range] at hj
    subst hj
    rw [List.length_range] at hlt
    simp only [Option.map_some, Option.some.injEq, Prod.mk.injEq] at h1
    exact ⟨parN_lt.1 hlt, h1.1.symm, h1.2.symm⟩
theorem kb_len {TL : Int → Int → Int} {b : List Int} {cl : List Kb} (h : cl.map (fun x => (x.1.a0, x.2)) = allD TL b) : cl.length = parN 6 b.length := by
  have := congrArg List.length h
  rw [allD_eq] at this
  simpa using this
theorem kcells_cm : ∀ cl : List Kb, kcells cl = cmcells (cl.map Prod.fst)
  | [] => rfl
  | x :: cl => by
    have := kcells_cm cl
    unfold kcells cmcells at this ⊢
    rw [List.map_cons, flatC, flatC, this]
theorem pixB_len {b : List Int} {i : Nat} : (pixB b i).length = min 6 (b.length - 6 * i) := by unfold pixB; simp
theorem pixB_by {b : List Int} (h : by8 b) (i : Nat) : by8 (pixB b i) := fun z hz => h z (List.mem_of_mem_drop (List.mem_of_mem_take hz))
/-- The slave's state behind the right key. -/
def Xr : St := { X00 13 with a := ⟨13, 12, none⟩ }
theorem take_pix {b : List Int} {i : Nat} : b.take (6 * i) ++ pixB b i = b.take (6 * (i + 1)) := by
  unfold pixB
  rw [Nat.mul_succ, List.take_add]
theorem unlock_pix {x key : List Int} {i : Nat} (h2 : x.length ≤ 20) (hk : key.length = x.length) (hi : 6 * i < x.length) :
    unlockX (Xu (some ⟨x, 1, x.length, key.take (6 * i)⟩)).a ((x.length - 6 * i : Nat) : Int) (pixB key i) = if 6 * (i + 1) < x.length then ((Xu (some ⟨x, 1, x.length, key.take (6 * (i + 1))⟩)).a, 0) else if key = keyL x 1 then (Xr.a, 0) else ((Xu none).a, 91) := by
  have hl : (key.take (6 * i)).length = 6 * i := by rw [List.length_take]; omega
  have hp : (pixB key i).length = min 6 (x.length - 6 * i) := by rw [pixB_len, hk]
  have hb : (13 : Int) - bits .and .u8 13 1 = 12 := by decide
  unfold unlockX
  simp only [Xu, hl, take_pix, List.length_take, hk]
  rw [if_pos (by refine ⟨?_, ?_, ?_⟩ <;> first | rfl | trivial | (rw [hp]; omega))]
  by_cases h : 6 * (i + 1) < x.length
  · rw [if_pos h, if_pos (by omega)]
  · rw [if_neg h, if_neg (by omega), List.take_of_length_le (by omega)]
    by_cases hq : key = keyL x 1
    · rw [if_pos hq, if_pos hq]
      simp only [Xr, X00, hb]
    · rw [if_neg hq, if_neg hq]
theorem kb_cm {w : World} {base : Nat} {k : Int} {y : Kb} (h : KbAt w base k y) {a0 : Int} (ha : y.1.a0 = a0) : y.1 = ⟨k, a0, 0, 0, 0, 0, 0, y.1.bA, y.1.bn, y.1.bc⟩ := by
  have := h.e
  rw [ha] at this
  exact this
theorem own_cap {w : World} {base : Nat} {e : TypeId} {size n c : Nat} {A : Option Addr} {xs : List Value} (h : Own w base e size A n c xs) : n ≤ c ∧ c ≤ maxLen := ⟨h.2.1, h.2.2.1⟩
theorem cm_at {cl : List Kb} {i : Nat} {c : Cm} (h : (cl.map Prod.fst)[i]? = some c) : ∃ y, cl[i]? = some y ∧ y.1 = c := by
  rw [List.getElem?_map] at h
  rcases hr : cl[i]? with _ | y
  · rw [hr] at h; cases h
  · rw [hr] at h
    exact ⟨y, rfl, by simpa using h⟩
section
variable {w : World} {L T N s m l : Nat} {x key : List Int} {cl : List Kb} {A : Option Addr} {cc base : Nat}
/-- A part of the key: told, and not the last one or the last of a right key. -/
theorem unlock_call (h1 : 1 ≤ x.length) (h2 : x.length ≤ 20) (hk : key.length = x.length) (hku : by8 key) (hb : T ≤ base) (hK : ∀ y ∈ cl, KbAt w base 13 y) (hm : cl.map (fun x => (x.1.a0, x.2)) = allD (fun _ l => l) key)
    {i : Nat} {c : Cm} (hc : (cl.map Prod.fst)[i]? = some c) {wr : World} {Nr : Nat} (hTA : TA wr L T Nr s m l (Xu (some ⟨x, 1, x.length, key.take (6 * i)⟩))) (hch : ChS L T w wr) :
    6 * i < x.length ∧ ∀ (a' : LX) (f : Int), unlockX (Xu (some ⟨x, 1, x.length, key.take (6 * i)⟩)).a ((x.length - 6 * i : Nat) : Int) (pixB key i) = (a', f) →
      (f = 0 → Calls Try.prog 32 #[.pointer (some ⟨s, 0, none⟩), c.val, .slice none 0 0] wr (DoP wr L T s m l { X00 13 with block := 0, a := a' } [a'.shut])) ∧
      (0 < f ∧ f ≤ 255 → Calls Try.prog 32 #[.pointer (some ⟨s, 0, none⟩), c.val, .slice none 0 0] wr (DoN wr L T s m l { X00 13 with block := 0, a := a' } f)) := by
  obtain ⟨y, hy, rfl⟩ := cm_at hc
  obtain ⟨hi, ha, hyb⟩ := kb_at hm hy
  rw [hk] at hi ha
  have ha : y.1.a0 = ((x.length - 6 * i : Nat) : Int) := by
    rw [ha]
    show IntKind.u8.wrap _ = _
    rw [IntKind.wrap_u8]
    omega
  have hKy := hK y (List.mem_of_getElem? hy)
  have hcm := kb_cm hKy ha
  have hcap := own_cap hKy.o
  have hbn : y.1.bn = min 6 (x.length - 6 * i) := by rw [← hKy.l, hyb, pixB_len, hk]
  have hrd : ∀ w1, ChS L T wr w1 → Rd w1 w1.heap.size y.1.bA (u8s (pixB key i)) := fun w1 hw1 => by
    have := hKy.o.chR' (hch.trans hw1) (by decide) hb
    rw [hyb] at this
    exact this.rd
  refine ⟨hi, fun a' f hu => ⟨fun hf => ?_, fun hf => ?_⟩⟩
  · subst hf
    rw [hcm]
    exact do_unlock hTA rfl (by omega) hcap.1 hcap.2 (by rw [hbn]; split <;> omega) (by rw [pixB_len, hk, hbn]) hrd (pixB_by hku i) hu _
  · rw [hcm]
    exact do_unlock_no hTA rfl (by omega) hcap.1 hcap.2 (by rw [hbn]; split <;> omega) (by rw [pixB_len, hk, hbn]) hrd (pixB_by hku i) hf hu _
theorem open_yes (h1 : 1 ≤ x.length) (h2 : x.length ≤ 20) (hk : key.length = x.length) (hku : by8 key) (hb : T ≤ base) (hO : Own w base 35 8 A cl.length cc (kcells cl)) (hK : ∀ y ∈ cl, KbAt w base 13 y) (hm : cl.map (fun x => (x.1.a0, x.2)) = allD (fun _ l => l) key)
    (h : TA w L T N s m l (Xu (sdx x x.length))) (hr : key = keyL x 1) :
    Calls Try.prog 8 #[.pointer (some ⟨s, 0, none⟩), .slice A cl.length cc, .slice none 0 0] w fun e w' => ∃ v, e = .returned (.tuple #[v, .int .u8 0]) ∧ TA w' L T w'.heap.size s m l Xr ∧ ChS L T w w' := by
  have hlen := kb_len hm
  rw [hk] at hlen
  have hcl : (cl.map Prod.fst).length = cl.length := List.length_map ..
  have hp1 : parN 6 x.length ≤ 4 := by unfold parN; omega
  rw [kcells_cm] at hO
  have D := does_ok (w := w) (cl := cl.map Prod.fst) (bl := (List.range cl.length).map fun i => if 6 * (i + 1) < x.length then [13] else [12]) (xs := fun i => if 6 * i < x.length then Xu (some ⟨x, 1, x.length, key.take (6 * i)⟩) else Xr) (by simp) (by rw [hcl]; omega) (A := A) (c := cc) hb (by rw [hcl]; exact hO) (.slice none 0 0) (by rw [if_pos (by omega)]; exact h)
    (fun i c b hc hbi wr Nr hTA hch => by
      have hi : 6 * i < x.length := by
        obtain ⟨y, hy, -⟩ := cm_at hc
        have := (kb_at hm hy).1
        omega
      simp only [if_pos hi] at hTA
      obtain ⟨-, hu⟩ := unlock_call h1 h2 hk hku hb hK hm hc hTA hch
      have hup := unlock_pix h2 hk hi
      have hbv : b = if 6 * (i + 1) < x.length then [13] else [12] := by
        rw [List.getElem?_map] at hbi
        rcases hrr : (List.range cl.length)[i]? with _ | j
        · rw [hrr] at hbi; cases hbi
        · rw [hrr] at hbi
          have hj := List.getElem?_eq_some_iff.1 hrr
          obtain ⟨_, hj⟩ := hj
          rw [List.getElem_range] at hj
          subst hj
          simpa using hbi.symm
      by_cases hn : 6 * (i + 1) < x.length
      · rw [if_pos hn] at hup hbv
        simp only [if_pos hn]
        subst hbv
        exact (hu _ _ hup).1 rfl
      · rw [if_neg hn, if_pos hr] at hup
        rw [if_neg hn] at hbv
        simp only [if_neg hn]
        subst hbv
        exact (hu _ _ hup).1 rfl) ⟨_, _, _, rfl⟩
  rw [hcl] at D
  refine D.mono ?_
  rintro e w' ⟨A', c', vs, rfl, hTA, hch, -, -⟩
  rw [if_neg (by rw [hlen]; unfold parN; omega)] at hTA
  exact ⟨_, rfl, hTA, hch⟩
theorem open_not (h1 : 1 ≤ x.length) (h2 : x.length ≤ 20) (hk : key.length = x.length) (hku : by8 key) (hb : T ≤ base) (hO : Own w base 35 8 A cl.length cc (kcells cl)) (hK : ∀ y ∈ cl, KbAt w base 13 y) (hm : cl.map (fun x => (x.1.a0, x.2)) = allD (fun _ l => l) key)
    (h : TA w L T N s m l (Xu (sdx x x.length))) (hr : key ≠ keyL x 1) :
    Calls Try.prog 8 #[.pointer (some ⟨s, 0, none⟩), .slice A cl.length cc, .slice none 0 0] w fun e w' => e = .returned (.tuple #[.slice none 0 0, .int .u8 91]) ∧ TA w' L T w'.heap.size s m l (Xu none) ∧ ChS L T w w' := by
  have hlen := kb_len hm
  rw [hk] at hlen
  have hcl : (cl.map Prod.fst).length = cl.length := List.length_map ..
  have hp1 : parN 6 x.length ≤ 4 := by unfold parN; omega
  have hp2 : 1 ≤ parN 6 x.length := by unfold parN; omega
  rw [kcells_cm] at hO
  have D := does_no (w := w) (cl := cl.map Prod.fst) (bl := List.replicate (cl.length - 1) [13]) (xs := fun i => Xu (some ⟨x, 1, x.length, key.take (6 * i)⟩)) (y := Xu none) (f := 91) (by simp; omega) (by rw [hcl]; omega) (A := A) (c := cc) hb (by rw [hcl]; exact hO) (.slice none 0 0) h
    (fun i c b hc hbi wr Nr hTA hch => by
      obtain ⟨hi, hu⟩ := unlock_call h1 h2 hk hku hb hK hm hc hTA hch
      have hup := unlock_pix h2 hk hi
      have hbv := List.getElem?_eq_some_iff.1 hbi
      obtain ⟨hlt, hbv⟩ := hbv
      rw [List.getElem_replicate] at hbv
      rw [List.length_replicate] at hlt
      subst hbv
      have hn : 6 * (i + 1) < x.length := by
        have : i + 1 < parN 6 x.length := by omega
        exact parN_lt.1 this
      rw [if_pos hn] at hup
      exact (hu _ _ hup).1 rfl) (by decide)
    (fun c hc wr Nr hTA hch => by
      obtain ⟨hi, hu⟩ := unlock_call h1 h2 hk hku hb hK hm hc hTA hch
      have hup := unlock_pix h2 hk hi
      have hn : ¬ 6 * ((List.replicate (cl.length - 1) ([13] : List Int)).length + 1) < x.length := by
        rw [List.length_replicate, hlen, Nat.sub_add_cancel hp2]
        unfold parN; omega
      rw [if_neg hn, if_neg hr] at hup
      exact (hu _ _ hup).2 (by decide)) ⟨_, _, _, rfl⟩
  rw [hcl] at D
  exact D
/-- One byte written: its two commands. -/
theorem put_row {k pt b : Int} {cl : List Kb} (hm : cl.map (fun x => (x.1.a0, x.2)) = allD (fun a _ => a) [b]) : ∃ y : Kb, cl = [y] ∧ y.1.a0 = 1 ∧ y.2 = [b] := by
  have hl := kb_len hm
  have h1 : parN 6 ([b] : List Int).length = 1 := by unfold parN; simp
  rw [h1] at hl
  match cl, hl with
  | [y], _ =>
    obtain ⟨-, ha, hy⟩ := kb_at (k := 0) hm rfl
    exact ⟨y, rfl, by rw [ha]; rfl, by rw [hy]; rfl⟩
def Mp (pt : Nat) (b : Int) : Mx := setR M00 0 (putX (rowL M00 0) pt [b])
theorem write_one {pt : Nat} (hp : pt < 64) (b : Int) : writeX M00 2 0 pt [b] = (Mp pt b, 0) := by
  rw [writeX_eq (k := 0) rfl]
  have : (rowL M00 0).length = 64 := by simp [rowL, M00, zeros]
  rw [if_pos (by simp [this]; omega), if_neg (by simp)]
  rfl
theorem read_one {pt : Nat} (hp : pt < 64) (b : Int) : readX (Mp pt b) 1 0 pt 1 = some [b] := by
  have h0 : (rowL M00 0).length = 64 := by simp [rowL, M00, zeros]
  have h1 : rowL (Mp pt b) 0 = putX (rowL M00 0) pt [b] := rfl
  have h2 : rowI (Mp pt b) 1 0 = some 0 := rfl
  have h3 := putX_len (l := rowL M00 0) (b := [b]) (pt := pt) (by simp [h0]; omega)
  unfold readX
  rw [h2]
  simp only [fitR, h1]
  rw [if_pos (by first | (rw [decide_eq_true_eq, h3, h0]; omega) | (rw [h3, h0]; omega))]
  unfold putX
  rw [List.append_assoc, List.drop_append_of_le_length (by rw [List.length_take]; omega), List.drop_of_length_le (by rw [List.length_take]; omega)]
  simp
theorem read_zero {pt : Nat} (hp : pt < 64) : readX M00 1 0 pt 1 = some [0] := by
  have h2 : rowI M00 1 0 = some 0 := rfl
  have h1 : rowL M00 0 = zeros 64 := rfl
  unfold readX
  rw [h2]
  simp only [fitR, h1]
  rw [if_pos (by simp [zeros]; omega)]
  unfold zeros
  rw [List.drop_replicate, List.take_replicate, show min 1 (64 - pt) = 1 by omega]
  rfl
theorem put_yes (hb : T ≤ base) {pt b : Nat} (hp : pt < 64) (hb0 : b < 256) (hO : Own w base 35 8 A (1 + cl.length) cc ((cmL 5 [0] (pt : Int)).cs ++ kcells cl)) (hK : ∀ y ∈ cl, KbAt w base 8 y) (hm : cl.map (fun x => (x.1.a0, x.2)) = allD (fun a _ => a) [(b : Int)]) (h : TA w L T N s m l Xr) :
    Calls Try.prog 8 #[.pointer (some ⟨s, 0, none⟩), .slice A (1 + cl.length) cc, .slice none 0 0] w fun e w' => ∃ v y, e = .returned (.tuple #[v, .int .u8 0]) ∧ TA w' L T w'.heap.size s m l y ∧ y.M = Mp pt b ∧ y.a = ⟨13, 12, none⟩ ∧ ChS L T w w' := by
  obtain ⟨y, rfl, ha, hy⟩ := put_row (k := 8) (pt := pt) hm
  have hKy := hK y (by simp)
  have hcm := kb_cm hKy ha
  have hcap := own_cap hKy.o
  have hbn : y.1.bn = 1 := by rw [← hKy.l, hy]; rfl
  have D := does_ok (w := w) (cl := [cm 5 0 0 0 0 0 (pt : Int), y.1]) (bl := [[], []]) (xs := fun i => if i = 0 then Xr else if i = 1 then { Xr with area := 0, pt := (pt : Int), block := 0 } else { Xr with area := 0, M := Mp pt b, pt := ((pt : Int) + y.1.bn) % 4294967296, block := 0 }) rfl (show 2 ≤ 1000 by decide) (A := A) (c := cc) hb hO (.slice none 0 0) h
    (fun i c bb hc hbi wr Nr hTA hch => by
      match i, hc, hbi with
      | 0, hc, hbi =>
        simp at hc hbi
        subst hc
        subst hbi
        exact do_mta hTA rfl (by decide) (by omega) _
      | 1, hc, hbi =>
        simp at hc hbi
        subst hc
        subst hbi
        rw [hcm]
        refine do_down hTA rfl (by decide) hcap.1 hcap.2 (by rw [hbn]; rfl) (xs := [(b : Int)]) (by rw [hbn]; rfl) (fun h => ?_) (fun w1 hw1 => ?_) (show bits .and .u8 12 1 = 0 by decide) (by have := write_one hp b; simpa [Xr, X00] using this) _
        · have := hKy.o.at_ (by omega)
          obtain ⟨g, o, hg⟩ := this
          rw [hg] at h
          cases h
        · have := hKy.o.chR' (hch.trans hw1) (by decide) hb
          rw [hy] at this
          exact this.rd) ⟨_, _, _, rfl⟩
  refine D.mono ?_
  rintro e w' ⟨A', c', vs, rfl, hTA, hch, -, -⟩
  exact ⟨_, _, rfl, hTA, rfl, rfl, hch⟩
theorem put_not (hb : T ≤ base) {pt b : Nat} (hp : pt < 64) (hb0 : b < 256) (hO : Own w base 35 8 A (1 + cl.length) cc ((cmL 5 [0] (pt : Int)).cs ++ kcells cl)) (hK : ∀ y ∈ cl, KbAt w base 8 y) (hm : cl.map (fun x => (x.1.a0, x.2)) = allD (fun a _ => a) [(b : Int)]) (h : TA w L T N s m l (Xu none)) :
    Calls Try.prog 8 #[.pointer (some ⟨s, 0, none⟩), .slice A (1 + cl.length) cc, .slice none 0 0] w fun e w' => ∃ y, e = .returned (.tuple #[.slice none 0 0, .int .u8 92]) ∧ TA w' L T w'.heap.size s m l y ∧ y.M = M00 ∧ y.a = ⟨13, 13, none⟩ ∧ ChS L T w w' := by
  obtain ⟨y, rfl, ha, hy⟩ := put_row (k := 8) (pt := pt) hm
  have hKy := hK y (by simp)
  have hcm := kb_cm hKy ha
  have hcap := own_cap hKy.o
  have hbn : y.1.bn = 1 := by rw [← hKy.l, hy]; rfl
  have D := does_no (w := w) (cl := [cm 5 0 0 0 0 0 (pt : Int), y.1]) (bl := [[]]) (xs := fun i => if i = 0 then Xu none else { Xu none with area := 0, pt := (pt : Int), block := 0 }) (y := { Xu none with area := 0, pt := (pt : Int), block := 0 }) (f := 92) (show 1 < 2 by decide) (show 2 ≤ 1000 by decide) (A := A) (c := cc) hb hO (.slice none 0 0) h
    (fun i c bb hc hbi wr Nr hTA hch => by
      match i, hc, hbi with
      | 0, hc, hbi =>
        simp at hc hbi
        subst hc
        subst hbi
        exact do_mta hTA rfl (by decide) (by omega) _) (by decide)
    (fun c hc wr Nr hTA hch => by
      simp at hc
      subst hc
      rw [hcm]
      refine do_down_lk hTA rfl (by decide) hcap.1 hcap.2 (by rw [hbn]; rfl) (xs := [(b : Int)]) (by rw [hbn]; rfl) (fun h => ?_) (fun w1 hw1 => ?_) (show bits .and .u8 13 1 = 1 by decide) _
      · have := hKy.o.at_ (by omega)
        obtain ⟨g, o, hg⟩ := this
        rw [hg] at h
        cases h
      · have := hKy.o.chR' (hch.trans hw1) (by decide) hb
        rw [hy] at this
        exact this.rd) ⟨_, _, _, rfl⟩
  refine D.mono ?_
  rintro e w' ⟨rfl, hTA, hch⟩
  exact ⟨_, rfl, hTA, rfl, rfl, hch⟩
end
end Go.Proofs.Yteecgdbicokgoaa
