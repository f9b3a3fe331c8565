/- Daq: lists of commands, and the few of them. -/
import Derived.Test.YtjjifldgfihjgaaGG
import Derived.Test.YtjjifldgfihjgaaG4
namespace Go.Proofs.Ytjjifldgfihjgaa
open Go.RowKit
set_option linter.unusedVariables false
set_option linter.unusedSimpArgs false
/-- A command, and its bytes. -/
abbrev Cb := Cm × List Int
abbrev Cb.cs (x : Cb) : List Value := x.1.cs
abbrev ccells (l : List Cb) : List Value := flatC Cb.cs l
theorem ccells_len (l : List Cb) : (ccells l).length = l.length * 8 := flatC_len Cb.cs 8 l (fun _ _ => rfl)
theorem ccells_at {l : List Cb} {k : Nat} {t : Cb} (h : l[k]? = some t) {j : Nat} {u : Value} (hu : (Cb.cs t)[j]? = some u) : (ccells l)[k * 8 + j]? = some u := flatC_at Cb.cs 8 l (fun _ _ => rfl) k t h j u hu
theorem ccells_one (l : List Cb) : ∀ v ∈ ccells l, v.oneCell' = true := by
  induction l with
  | nil => intro v hv; cases hv
  | cons t l ih =>
    intro v hv
    rcases List.mem_append.1 hv with h | h
    · simp only [Cb.cs, Cm.cs, List.mem_cons, List.not_mem_nil, or_false] at h
      rcases h with rfl | rfl | rfl | rfl | rfl | rfl | rfl | rfl <;> rfl
    · exact ih v h
/-- A command that reads so. -/
structure RCb (w : World) (x : Cb) : Prop where
  wf : x.1.wf
  l : x.2.length = x.1.bn
  r : Rd w w.heap.size x.1.bA (u8s x.2)
  z : x.1.bA = none → x.1.bn = 0 ∧ x.1.bc = 0
/-- Commands that read so. -/
structure RCs (w : World) (A : Option Addr) (l : List Cb) : Prop where
  row : Rd w w.heap.size A (ccells l)
  all : ∀ x ∈ l, RCb w x
theorem RCb.bel {w w' : World} {x : Cb} (h : RCb w x) (hb : Below w.heap.size w w') : RCb w' x := ⟨h.wf, h.l, (h.r.below hb).more hb.size, h.z⟩
theorem RCs.bel {w w' : World} {A : Option Addr} {l : List Cb} (h : RCs w A l) (hb : Below w.heap.size w w') : RCs w' A l := ⟨(h.row.below hb).more hb.size, fun x hx => (h.all x hx).bel hb⟩
/-- A command of up to 10 bytes. -/
def cutC (x : Cb) : Cb := ({ x.1 with bn := min x.1.bn 10 }, x.2.take (min x.1.bn 10))
def fewX (l : List Cb) : List Cb := (l.take 80).map cutC
theorem RCb.cut {w : World} {x : Cb} (h : RCb w x) : RCb w (cutC x) :=
  ⟨⟨h.wf.k0, h.wf.k1, h.wf.h0, h.wf.h1, h.wf.h2, h.wf.h3, h.wf.h4, h.wf.w0, h.wf.w1, Nat.le_trans (Nat.min_le_left _ _) h.wf.b1, h.wf.b2⟩, by
    show (x.2.take (min x.1.bn 10)).length = min x.1.bn 10
    rw [List.length_take, h.l]
    omega, h.r.take' _, fun hh => ⟨by have := (h.z hh).1; show min x.1.bn 10 = 0; omega, (h.z hh).2⟩⟩
abbrev z33 : Value := .agg #[.int .u8 0, .int .u8 0, .int .u8 0, .int .u8 0, .int .u8 0, .int .u8 0, .int .u32 0, .slice none 0 0]
theorem info33 : (Try.prog.info? 33).map (fun i => (i.zero, i.size, i.bytes)) = some (some z33, 8, 40) := by kernel_rfl
def FewP (w : World) (l : List Cb) (e : Ending) (w' : World) : Prop := ∃ A c, e = .returned (.slice A (fewX l).length c) ∧ Own w' w.heap.size 33 8 A (fewX l).length c (ccells (fewX l)) ∧ Below w.heap.size w w'
theorem few_snoc {l : List Cb} {k : Nat} {x : Cb} (h : l[k]? = some x) (hk : k < 80) : fewX (l.take (k + 1)) = fewX (l.take k) ++ [cutC x] := by
  unfold fewX
  rw [List.take_take, List.take_take, Nat.min_eq_right (by omega), Nat.min_eq_right (by omega), List.take_add_one, h]
  simp
theorem few_stop (l : List Cb) {k : Nat} (hk : 80 ≤ k) : fewX (l.take (k + 1)) = fewX (l.take k) := by
  unfold fewX
  rw [List.take_take, List.take_take, Nat.min_eq_left (by omega), Nat.min_eq_left (by omega)]
theorem few_len (l : List Cb) : (fewX l).length ≤ 80 := by
  unfold fewX
  rw [List.length_map, List.length_take]
  omega
theorem ccells_app (a b : List Cb) : ccells (a ++ b) = ccells a ++ ccells b := by
  induction a with
  | nil => rfl
  | cons x l ih =>
    show Cb.cs x ++ flatC Cb.cs (l ++ b) = (Cb.cs x ++ flatC Cb.cs l) ++ flatC Cb.cs b
    rw [show flatC Cb.cs (l ++ b) = flatC Cb.cs l ++ flatC Cb.cs b from ih, List.append_assoc]
theorem rdnew2 (w : World) (o : Obj) (vs : List Value) (t : TypeId) : Rd ((w.alloc o).alloc (.cells vs.toArray t)) (w.heap.size + 1 + 1) (some ⟨w.heap.size + 1, 0, none⟩) vs := by
  have := (Blk.new (w.alloc o) t vs.toArray).rd
  simpa only [World.size_alloc] using this
set_option maxHeartbeats 4000000 in
theorem few_any (A : Option Addr) (n c : Nat) (l : List Cb) (w : World) (hx : l.length = n) (hl : n ≤ maxLen) (hr : RCs w A l) : Calls Try.prog 11 #[.slice A n c] w (FewP w l) := by
  unfold maxLen at hl
  have HX := Lib.hid hx
  have HR := Lib.hid hr
  clear hx hr
  go_enter Try.func11, Try.ntmps11
  go_wp2
  go_loopw [8, 3] (fun iv ov wr => ∃ (k m : Nat) (B : Option Addr) (d : Nat), k ≤ n ∧ iv = .int .i64 k ∧ ov = .slice B m d ∧ m = (fewX (l.take k)).length ∧ Own wr w.heap.size 33 8 B m d (ccells (fewX (l.take k))) ∧ Below w.heap.size w wr) (fun iv _ _ => n - (intOf iv).toNat)
  case atStart => exact ⟨0, 0, none, 0, Nat.zero_le _, rfl, rfl, rfl, Own.nil _ _ _ _, Below.refl _ _⟩
  case round =>
    obtain ⟨k, m, B, d, hk, rfl, rfl, hm, ho, hb⟩ := hrel
    have HM := Lib.hid hm
    have hm80 : m ≤ 80 := by rw [hm]; exact few_len _
    have hz := hb.size
    clear hm
    by_cases hlt : k < n
    · have hlt' : (k : Int) < n := by omega
      obtain ⟨x, hxk⟩ : ∃ x, l[k]? = some x := ⟨_, List.getElem?_eq_getElem (by rw [HX.out]; exact hlt)⟩
      obtain ⟨b, o, rfl, -, hc⟩ := HR.out.row.below hb (by intro h; have h2 := ccells_len l; rw [h, HX.out] at h2; simp at h2; omega)
      have q0 := hc _ _ (ccells_at hxk (j := 0) rfl)
      have q1 := hc _ _ (ccells_at hxk (j := 1) rfl)
      have q2 := hc _ _ (ccells_at hxk (j := 2) rfl)
      have q3 := hc _ _ (ccells_at hxk (j := 3) rfl)
      have q4 := hc _ _ (ccells_at hxk (j := 4) rfl)
      have q5 := hc _ _ (ccells_at hxk (j := 5) rfl)
      have q6 := hc _ _ (ccells_at hxk (j := 6) rfl)
      have q7 := hc _ _ (ccells_at hxk (j := 7) rfl)
      rw [← Nat.add_assoc] at q0 q1 q2 q3 q4 q5 q6 q7
      rw [Nat.add_zero] at q0
      have hxx := HR.out.all x (List.mem_of_getElem? hxk)
      have HXK := Lib.hid hxk
      have p8 := hxx.z
      have hcap : x.1.bc ≤ 9223372036854775807 := hxx.wf.b2
      have hnc : (x.1.bn : Int) ≤ x.1.bc := by have := hxx.wf.b1; omega
      obtain ⟨⟨xc, x0, x1, x2, x3, x4, xw, xA, xn, xcc⟩, xb⟩ := x
      dsimp only at *
      clear hc hxx
      by_cases h80 : k < 80
      · have h80' : (k : Int) < 80 := by omega
        have hX2 := fun o1 o2 => (ho.alloc o1).alloc o2
        obtain ⟨M, hM⟩ : ∃ M, min xn 10 = M := ⟨_, rfl⟩
        have HMM := Lib.hid hM
        have hcs : (xA = none ∧ xn = 0 ∧ xcc = 0 ∧ M = 0) ∨ (∃ ad, xA = some ad) ∧ xn ≤ 10 ∧ M = xn ∨ (∃ ad, xA = some ad) ∧ 10 < xn ∧ M = 10 := by
          cases xA with
          | none => have := p8 rfl; exact .inl ⟨rfl, this.1, this.2, by omega⟩
          | some ad => rcases Nat.lt_or_ge 10 xn with h | h
                       · exact .inr (.inr ⟨⟨ad, rfl⟩, h, by omega⟩)
                       · exact .inr (.inl ⟨⟨ad, rfl⟩, h, by omega⟩)
        clear p8 hM hxk
        rcases hcs with ⟨rfl, rfl, rfl, rfl⟩ | ⟨⟨ad, rfl⟩, h10, rfl⟩ | ⟨⟨ad, rfl⟩, h10, rfl⟩
        case' inr.inl =>
          have e2 : min (M : Int) 10 = (M : Int) := by omega
          have h10' : (M : Int) ≤ 10 := by omega
        case' inr.inr =>
          have e2 : min (xn : Int) 10 = 10 := by omega
          have e3 : max (10 : Int) 0 = 10 := by omega
          have h10' : (10 : Int) ≤ xn := by omega
        all_goals
          go_wp2_with (at_builtin; refine wpList_app _ rfl (.tmp 23) (.tmp 25) 22 rfl w.heap.size 33 z33 8 40 Try.underlying22 info33 rfl (by decide) B m d _ rfl (hX2 _ _) _ _ 1 1 _ rfl rfl (rdnew2 _ _ [.int .u8 xc, .int .u8 x0, .int .u8 x1, .int .u8 x2, .int .u8 x3, .int .u8 x4, .int .u32 xw, _] 33) (by intro v hv; simp only [List.mem_cons, List.not_mem_nil, or_false] at hv; rcases hv with rfl | rfl | rfl | rfl | rfl | rfl | rfl | rfl <;> rfl) (by unfold maxLen; omega) (by omega) (by simp; omega) ?_; intro X' e' w' ho3 hg hbk)
          go_roundw
          case rel =>
            refine ⟨k + 1, m + 1, X', e', by omega, by go_num, rfl, by rw [few_snoc HXK.out h80, List.length_append, ← HM.out]; rfl, ?_, ?_⟩
            · rw [few_snoc HXK.out h80, ccells_app]
              have hq := HMM.out
              first
                | exact ho3
                | (simp only [ccells, flatC, cutC, Cb.cs, Cm.cs, hq, List.append_nil]; exact ho3)
            · exact bel_grown' ((hb.trans ((bl1 wr _).mono hz)).trans ((bl1 _ _).mono (by simp; omega))) (by simp; omega) (hX2 _ _) hg
          case measure => simp [intOf]; omega
      · have h80' : decide ((k : Int) < 80) = false := decide_eq_false (by omega)
        go_wp2_with fail
        go_roundw
        case rel => exact ⟨k + 1, m, B, d, by omega, by go_num, rfl, by rw [few_stop l (by omega)]; exact HM.out, by rw [few_stop l (by omega)]; exact ho.alloc _, hb.trans ((bl1 wr _).mono hz)⟩
        case measure => simp [intOf]; omega
    · obtain rfl : n = k := by omega
      go_wp2_with fail
      go_ret
      have e : l.take n = l := List.take_of_length_le (by rw [HX.out]; exact Nat.le_refl _)
      have hm := HM.out
      rw [e] at hm ho
      subst hm
      exact ⟨B, d, rfl, ho, hb⟩
end Go.Proofs.Ytjjifldgfihjgaa
