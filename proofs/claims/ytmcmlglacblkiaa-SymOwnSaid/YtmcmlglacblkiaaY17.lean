/- sym.New. -/
import Derived.Test.YtmcmlglacblkiaaY16
import Derived.Maps.OwnSet
namespace Go.Proofs.Ytmcmlglacblkiaa
open Go.RowKit Go.Maps
set_option linter.unusedVariables false
set_option linter.unusedSimpArgs false
def TNewP (w : World) (l : List Sy) (E : Int) (e : Ending) (w' : World) : Prop := (E = 0 → ∃ t, e = .returned (.tuple #[.pointer (some ⟨t, 0, none⟩), .int .i64 0]) ∧ TabAt w' w.heap.size t l) ∧ (E ≠ 0 → e = .returned (.tuple #[.pointer none, .int .i64 E])) ∧ Below w.heap.size w w'
theorem tnew_no {w w' : World} {l : List Sy} {E : Int} (hE : E ≠ 0) {e : Ending} (h : e = .returned (.tuple #[.pointer none, .int .i64 E])) (hb : Below w.heap.size w w') : TNewP w l E e w' := ⟨fun h0 => absurd h0 hE, fun _ => h, hb⟩
theorem tnew_ok {w w' : World} {l : List Sy} {e : Ending} (t : Nat) (h : e = .returned (.tuple #[.pointer (some ⟨t, 0, none⟩), .int .i64 0])) (ht : TabAt w' w.heap.size t l) (hb : Below w.heap.size w w') : TNewP w l 0 e w' := ⟨fun _ => ⟨t, h, ht⟩, fun h0 => absurd rfl h0, hb⟩
set_option maxHeartbeats 8000000 in
theorem new_any (A : Option Addr) (n c : Nat) (l : List Sy) (w : World) (hx : l.length = n) (hr : Rd w w.heap.size A (cellsS l)) (hl : n ≤ maxLen) (hwf : ∀ s ∈ l, s.wf) :
    Calls Try.prog 18 #[.slice A n c] w (TNewP w l (errN l)) := by
  have hml : maxLen = 9223372036854775807 := by decide
  rw [hml] at hl
  have HX := Lib.hid hx
  have HWF := Lib.hid hwf
  have HR := Lib.hid (hr_row hr)
  obtain ⟨E, hE⟩ : ∃ E, errN l = E := ⟨_, rfl⟩
  have H3 := Lib.hid (errN_long l)
  have H1 := Lib.hid (errN_may l)
  have HD := Lib.hid (errN_dup l)
  have HO := Lib.hid (errN_ok l)
  rw [hE] at H3 H1 HD HO ⊢
  clear hx hr hwf hE
  by_cases h64 : 64 < n
  · obtain rfl : E = 3 := H3.out (by rw [HX.out]; exact h64)
    have h64I : (64 : Int) < n := by omega
    go_enter Try.func18, Try.ntmps18
    go_wp2_with fail
    go_ret2
    exact tnew_no (by decide) rfl (Below.refl _ _)
  · have h64I : (n : Int) ≤ 64 := by omega
    have HL : Hid (l.length ≤ 64) := by show _ ≤ _; rw [HX.out]; omega
    have hn64 : n ≤ 64 := by omega
    clear h64 H3
    have hmm := @run_makeMap Try.prog
    have M0 : MapAt ((w.alloc (.map #[] 0)).alloc (.cells #[.map (some w.heap.size)] 62)) w.heap.size (l.take 0) := ⟨0, Nat.zero_le _, (World.ownsMap_made w Try.prog 9 RV).alloc _⟩
    have T0 : Blk ((w.alloc (.map #[] 0)).alloc (.cells #[.map (some w.heap.size)] 62)) (w.heap.size + 1) 62 #[.map (some w.heap.size)] := by
      have := Blk.new (w.alloc (.map #[] 0)) 62 #[.map (some w.heap.size)]
      rwa [World.size_alloc] at this
    have hb0 := bl2 w (.map #[] 0) (.cells #[.map (some w.heap.size)] 62)
    go_enter Try.func18, Try.ntmps18
    go_wp2_with fail
    go_loopw [15] (fun iv wx => ∃ k : Nat, k ≤ n ∧ iv = .int .i64 (k : Nat) ∧ (∀ j t, j < k → l[j]? = some t → t.may = true) ∧ MapAt wx w.heap.size (l.take k) ∧ Blk wx (w.heap.size + 1) 62 #[.map (some w.heap.size)] ∧ Below w.heap.size w wx) (fun iv _ => n - (intOf iv).toNat)
    case atStart => exact ⟨0, Nat.zero_le _, rfl, fun j t h => by omega, M0, T0, hb0⟩
    case round =>
      obtain ⟨k, hk, rfl, hno, hM, hT, hb⟩ := hrel
      have HNO := Lib.hid hno
      have hz := hb.size
      clear hno M0 T0 hb0
      by_cases hlt : k < n
      · have hltI : (k : Int) < n := by omega
        obtain ⟨s, hs⟩ : ∃ s, l[k]? = some s := ⟨_, List.getElem?_eq_getElem (by rw [HX.out]; exact hlt)⟩
        obtain ⟨b, o, rfl, hcc⟩ := HR.out wr hb k s hs
        have HSK := Lib.hid hs
        have hsw := HWF.out s (List.mem_of_getElem? hs)
        have MY := Lib.hid fun W => may_any s W hsw
        have HSN : Hid (s.nm.size ≤ maxLen) := by show _ ≤ _; rw [hml]; exact hsw.nm
        have HTK : Hid (l.take (k + 1) = l.take k ++ [s]) := by
          show _ = _
          obtain ⟨hl1, rfl⟩ := List.getElem?_eq_some_iff.1 hs
          exact List.take_succ_eq_append_getElem hl1
        have HTL : Hid ((l.take k).length < maxLen) := by
          show _ < _
          rw [hml, List.length_take]; omega
        have BX := Blk.new wr 24 s.cs
        have hM1 := hM.below (bl1 wr (.cells s.cs 24))
        have hT1 := hT.alloc (.cells s.cs 24)
        have hb1 := hb.alloc hz (.cells s.cs 24)
        have hz1 := hb1.size
        cases hm : s.may
        · obtain rfl : E = 1 := H1.out HL.out s (List.mem_of_getElem? hs) hm
          rw [hm] at MY
          obtain ⟨nm', ar, at_, wd, bg, sg, mu, ad⟩ := s
          have c0 := hcc 0 _ rfl
          have c1 := hcc 1 _ rfl
          have c2 := hcc 2 _ rfl
          have c3 := hcc 3 _ rfl
          have c4 := hcc 4 _ rfl
          have c5 := hcc 5 _ rfl
          have c6 := hcc 6 _ rfl
          have c7 := hcc 7 _ rfl
          simp only [← Nat.add_assoc, Nat.add_zero] at c0 c1 c2 c3 c4 c5 c6 c7
          clear hcc hs hlt hm hM hT hM1 hT1
          go_wp2_with fail
          refine (MY.out _).mono ?_
          rintro e w2 ⟨rfl, hb2⟩
          go_wp2_with fail
          go_ret2
          exact tnew_no (by decide) rfl (hb1.trans (hb2.mono hz1))
        · have HMM := Lib.hid hm
          rw [hm] at MY
          obtain ⟨nm', ar, at_, wd, bg, sg, mu, ad⟩ := s
          have c0 := hcc 0 _ rfl
          have c1 := hcc 1 _ rfl
          have c2 := hcc 2 _ rfl
          have c3 := hcc 3 _ rfl
          have c4 := hcc 4 _ rfl
          have c5 := hcc 5 _ rfl
          have c6 := hcc 6 _ rfl
          have c7 := hcc 7 _ rfl
          simp only [← Nat.add_assoc, Nat.add_zero] at c0 c1 c2 c3 c4 c5 c6 c7
          clear hcc hs hlt hm hM hT
          go_wp2_with fail
          refine (MY.out _).mono ?_
          rintro e w2 ⟨rfl, hb2⟩
          have hM2 := hM1.below hb2
          have hT2 := hT1.below hb2
          have BX2 := BX.below hb2
          have hb3 := hb1.trans (hb2.mono hz1)
          have hz3 := hb3.size
          obtain ⟨w3, hrun, hM3, hg3⟩ := hM2.drew.put ⟨nm', ar, at_, wd, bg, sg, mu, ad⟩ HSN.out HTL.out
          have hT3 : Blk w3 (w.heap.size + 1) 62 #[.map (some w.heap.size)] := hT2.drew.grown hg3 (by intro h; injection h with h; omega)
          have hb4 : Below w.heap.size w w3 := hb3.drew.grown hg3 hz3 (fun k hk => by injection hk with hk; omega)
          have cX2 := BX2.cell
          have cT2 := hT2.cell
          clear c0 c1 c2 c3 c4 c5 c6 c7 hM1 hT1 BX hb2 hM2 hT2 BX2
          go_wp2_with fail
          go_region
          all_goals
            go_wp2_with fail
            go_roundw
            case rel =>
              refine ⟨k + 1, by omega, by go_num, fun j t hj ht => ?_, by rw [HTK.out]; exact hM3, hT3, hb4⟩
              rcases Nat.lt_or_ge j k with h | h
              · exact HNO.out j t h ht
              · obtain rfl : j = k := by omega
                have := HSK.out
                rw [this] at ht
                injection ht with ht
                subst ht
                exact HMM.out
            case measure => simp [intOf]; omega
      · obtain rfl : k = n := by omega
        have HAM : Hid (∀ s ∈ l, s.may = true) := fun s hs => by
          obtain ⟨j, hj, rfl⟩ := List.mem_iff_getElem.1 hs
          rw [HX.out] at hj
          exact HNO.out j _ hj (List.getElem?_eq_getElem (by rw [HX.out]; exact hj))
        rw [List.take_of_length_le (by rw [HX.out]; exact Nat.le_refl _)] at hM
        obtain ⟨hs1, hs2, hs3⟩ := size_LD l
        rw [HX.out] at hs1 hs2 hs3
        have hM' := hM
        obtain ⟨N, hN, ho⟩ := hM'
        have hlen := fun ty => ho.len Try.underlying60 ty
        obtain ⟨Z, hZ⟩ : ∃ Z, Maps.size (LD l) = Z := ⟨_, rfl⟩
        rw [hZ] at hlen hs1 hs2 hs3
        have cT := hT.cell
        clear hZ hlt HNO ho
        by_cases hd : Dup l
        · obtain rfl : E = 180 := HD.out HL.out HAM.out hd
          have hlI : (Z : Int) < k := by have := hs3 hd; omega
          clear hs1 hs2 hs3
          go_wp2_with fail
          go_ret2
          exact tnew_no (by decide) rfl hb
        · obtain rfl : E = 0 := HO.out HL.out HAM.out hd
          have hlI : ¬ (Z : Int) < k := by have := hs2 hd; omega
          clear hs1 hs2 hs3
          go_wp2_with fail
          go_ret2
          exact tnew_ok (w.heap.size + 1) rfl ⟨w.heap.size, hT, by omega, hM⟩ hb
end Go.Proofs.Ytmcmlglacblkiaa
