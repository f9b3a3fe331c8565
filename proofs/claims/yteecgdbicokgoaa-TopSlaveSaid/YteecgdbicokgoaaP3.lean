/- split.Open and split.Write. -/
import Derived.Test.YteecgdbicokgoaaP2
namespace Go.Proofs.Yteecgdbicokgoaa
open Go.RowKit Go.Shelf
set_option linter.unusedVariables false
set_option linter.unusedSimpArgs false
set_option maxRecDepth 100000
/-- The commands of all parts. -/
def allD (TL : Int → Int → Int) (b : List Int) : List (Int × List Int) := (outD TL b b.length (pixL 6 b.length (parN 6 b.length))).2
/-- Rows of commands of the call's own. -/
def RowK (w w' : World) (k : Int) (l : List (Int × List Int)) (A : Option Addr) (n c : Nat) : Prop :=
  ∃ cl : List Kb, n = cl.length ∧ Own w' w.heap.size 35 8 A n c (kcells cl) ∧ (∀ x ∈ cl, KbAt w' w.heap.size k x) ∧ cl.map (fun x => (x.1.a0, x.2)) = l
set_option maxHeartbeats 1000000 in
theorem open_ok {w : World} {g o n c : Nat} {b : List Int} (hn : b.length = n) (h1 : 1 ≤ n) (h2 : n ≤ 20) (hc : n ≤ c) (hr : Rd w w.heap.size (some ⟨g, o, none⟩) (u8s b)) :
    Calls Try.prog 10 #[.slice (some ⟨g, o, none⟩) n c] w fun e w' => ∃ A cc m, e = .returned (.tuple #[.slice A m cc, .int .i64 0]) ∧ RowK w w' 13 (allD (fun _ l => l) b) A m cc ∧ Below w.heap.size w w' := by
  have hP := Lib.hid (parts_some (k := 13) (ft := 35) (TL := fun _ l => l) (w := w) hn (by omega) (by omega) hc hr (fun a l w => tellO_any a l w) (.inl rfl))
  have i1 : ¬ ((n : Int) < 1) := by omega
  have i2 : ¬ ((20 : Int) < n) := by omega
  have HN := Lib.hid hn
  clear hr hn
  go_enter Try.func10, Try.ntmps10
  go_wp2_with fail
  refine hP.out.mono ?_
  rintro e w' ⟨A, cc, cl, rfl, hO, hK, hm, hb⟩
  have HR := Lib.hid (And.intro hO (And.intro hK (And.intro hm hb)))
  clear hO hK hm hb hP
  go_wp2_with fail
  go_ret2
  obtain ⟨hO, hK, hm, hb⟩ := HR.out
  exact ⟨A, cc, cl.length, rfl, ⟨cl, rfl, hO, hK, by rw [hm]; unfold allD; rw [HN.out]⟩, hb⟩
theorem open_no {w : World} {A : Option Addr} {n c : Nat} (h : n < 1 ∨ 20 < n) :
    Calls Try.prog 10 #[.slice A n c] w fun e w' => e = .returned (.tuple #[.slice none 0 0, .int .i64 1]) ∧ w = w' := by
  rcases h with h | h
  · have i1 : (n : Int) < 1 := by omega
    go_enter Try.func10, Try.ntmps10
    go_wp2_with fail
    go_ret2
    exact ⟨rfl, rfl⟩
  · have i1 : ¬ ((n : Int) < 1) := by omega
    have i2 : (20 : Int) < n := by omega
    go_enter Try.func10, Try.ntmps10
    go_wp2_with fail
    go_ret2
    exact ⟨rfl, rfl⟩
theorem swrite_no {w : World} {pt area : Int} (hp : 0 ≤ pt ∧ pt < 4294967296) {A : Option Addr} {n c : Nat} (hn : n ≤ 1000000) (h : fitsN pt n = false) :
    Calls Try.prog 11 #[.int .u8 area, .int .u32 pt, .slice A n c] w fun e w' => e = .returned (.tuple #[.slice none 0 0, .int .i64 1]) ∧ w = w' := by
  have SF := Lib.hid (sfits_any hp n hn)
  rw [h] at SF
  clear hp h
  go_enter Try.func11, Try.ntmps11
  go_wp2_with fail
  refine (SF.out _).mono ?_
  rintro e w' ⟨rfl, rfl⟩
  go_wp2_with fail
  go_ret2
  exact ⟨rfl, rfl⟩
set_option maxHeartbeats 2000000 in
theorem swrite_ok {w : World} {pt area : Int} (hp : 0 ≤ pt ∧ pt < 4294967296) {g o n c : Nat} {b : List Int} (hn : b.length = n) (hc : n ≤ c) (hr : Rd w w.heap.size (some ⟨g, o, none⟩) (u8s b)) (h : fitsN pt n = true) :
    Calls Try.prog 11 #[.int .u8 area, .int .u32 pt, .slice (some ⟨g, o, none⟩) n c] w fun e w' => ∃ A cc, ∃ cl : List Kb, e = .returned (.tuple #[.slice A (1 + cl.length) cc, .int .i64 0]) ∧ Own w' w.heap.size 35 8 A (1 + cl.length) cc ((cmL 5 [area] pt).cs ++ kcells cl) ∧
      (∀ x ∈ cl, KbAt w' w.heap.size 8 x) ∧ cl.map (fun x => (x.1.a0, x.2)) = allD (fun a _ => a) b ∧ Below w.heap.size w w' := by
  have hn2 : 1 ≤ n ∧ n ≤ 112 := by unfold fitsN at h; have := of_decide_eq_true h; omega
  have SF := Lib.hid (sfits_any hp n (by omega))
  rw [h] at SF
  have hP := Lib.hid (parts_some (k := 8) (ft := 37) (TL := fun a _ => a) (w := w) hn (by omega) (by omega) hc hr (fun a l w => tellW_any a l w) (.inr rfl))
  have HN := Lib.hid (And.intro hn hn2)
  clear hr hn hp h hn2
  go_enter Try.func11, Try.ntmps11
  go_wp2_with fail
  refine (SF.out _).mono ?_
  rintro e w' ⟨rfl, rfl⟩
  go_wp2_with fail
  refine hP.out.mono ?_
  rintro e w1 ⟨A, cc, cl, rfl, hO, hK, hm, hb⟩
  have hlen : cl.length ≤ 1000 := by
    have h1 := congrArg List.length hm
    rw [List.length_map, outD_len] at h1
    have h2 : ∀ k, (pixL 6 n k).length ≤ k := by
      intro k
      induction k with
      | zero => exact Nat.le_refl _
      | succ k ih =>
        unfold pixL
        split
        · rw [List.length_append]; simp; omega
        · omega
    have h3 := h2 (parN 6 n)
    have h4 := HN.out.2
    unfold parN at h1 h3
    omega
  have HR := Lib.hid (And.intro hO (And.intro hK (And.intro hm (And.intro hb hlen))))
  have b22 : Below w1.heap.size w1 (w1.alloc (.cells #[.int .u8 area] 5)) := bl1 _ _
  have GR := Lib.hid (great_any (k := 5) (v := pt) (xs := [area]) (n := 1) (c := 1) rfl (by decide) (by decide) (Blk.rd (cs := [.int .u8 area]) (Blk.new w1 5 #[.int .u8 area])))
  obtain ⟨y, hy⟩ : ∃ y, cmL 5 [area] pt = y := ⟨_, rfl⟩
  rw [hy] at GR
  have HY := Lib.hid hy
  have HB22 := Lib.hid b22
  clear hO hK hm hb hP hlen b22 SF hy
  go_wp2_with fail
  refine GR.out.mono ?_
  rintro e w2 ⟨rfl, hb2⟩
  have hb12 : Below w1.heap.size w1 w2 := HB22.out.trans (hb2.mono HB22.out.size)
  have hb3 : Below w1.heap.size w1 (w2.alloc (.cells y.cs.toArray 35)) := hb12.alloc hb12.size _
  have hw12 : w.heap.size ≤ w2.heap.size := Nat.le_trans HR.out.2.2.2.1.size hb12.size
  have hO3 : Own (w2.alloc (.cells y.cs.toArray 35)) w.heap.size 35 8 (some ⟨w2.heap.size, 0, none⟩) 1 1 y.cs := Own.made (e := 35) (size := 8) w2 hw12 y.cs.toArray 1 1 (by decide) (by decide) rfl
  have hR3 := (HR.out.1.below hb3).rd
  have hL : (kcells cl).length = cl.length * 8 := HR.out.1.1
  have h1c : ∀ u ∈ kcells cl, u.oneCell' = true := by
    intro u hu
    unfold kcells at hu
    obtain ⟨i, hi⟩ := List.getElem?_of_mem hu
    obtain ⟨t, ht⟩ := flatC_get Kb.cs 8 (by decide) cl (fun t _ => rfl) i u hi
    obtain ⟨j, hj⟩ : ∃ j, t.cs[j]? = some u := by
      first | exact ⟨_, ht.2⟩ | exact ⟨_, ht.2.2⟩ | exact ⟨_, ht.2.1⟩
    have hmem := List.mem_of_getElem? hj
    simp [Kb.cs, Cm.cs] at hmem
    rcases hmem with h | h | h | h | h | h | h | h <;> subst h <;> rfl
  have m1 : 1 + cl.length ≤ maxLen := by have := HR.out.2.2.2.2; unfold maxLen; omega
  have m2 : (1 + cl.length) * 40 ≤ 140737488355328 := by have := HR.out.2.2.2.2; omega
  have m3 : w.heap.size ≤ (w2.alloc (.cells y.cs.toArray 35)).heap.size := by simp; omega
  have HA := Lib.hid (And.intro hb12 (And.intro hb3 (And.intro hw12 (And.intro hO3 (And.intro hR3 (And.intro hL (And.intro h1c (And.intro m1 (And.intro m2 m3)))))))))
  clear hb12 hb3 hw12 hO3 hR3 hL h1c m1 m2 m3 hb2
  go_wp2_with (at_builtin; refine wpList_app _ rfl (.tmp 20) (.tmp 21) 36 rfl w.heap.size 35 (.agg #[.int .u8 0, .int .u8 0, .int .u8 0, .int .u8 0, .int .u8 0, .int .u8 0, .int .u32 0, .slice none 0 0]) 8 40 Try.underlying36 info35 rfl (by decide) (some ⟨w2.heap.size, 0, none⟩) 1 1 y.cs rfl HA.out.2.2.2.1 _ A cl.length cc (kcells cl) rfl HA.out.2.2.2.2.2.1 HA.out.2.2.2.2.1 HA.out.2.2.2.2.2.2.1 HA.out.2.2.2.2.2.2.2.1 HA.out.2.2.2.2.2.2.2.2.1 HA.out.2.2.2.2.2.2.2.2.2 ?_; intro A4 c4 w4 hown4 hg4 hbk4)
  go_ret2
  obtain ⟨hO, hK, hm, hb, hlen⟩ := HR.out
  have hch := HA.out.2.1
  have hbb : Below w1.heap.size w1 w4 := bel_grown hch hg4 HA.out.1.size
  refine ⟨A4, c4, cl, by first | rfl | simp, (by rw [HY.out]; exact hown4), fun x hx => ⟨(hK x hx).e, (hK x hx).l, (hK x hx).o.below hbb⟩, ?_, hb.trans (hbb.mono hb.size)⟩
  rw [hm]
  unfold allD
  rw [HN.out.1]
end Go.Proofs.Yteecgdbicokgoaa
