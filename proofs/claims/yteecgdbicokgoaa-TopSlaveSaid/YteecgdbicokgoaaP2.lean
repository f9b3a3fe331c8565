/- split.parts: a range over Chunk. -/
import Derived.Test.YteecgdbicokgoaaP0
import Derived.Test.YteecgdbicokgoaaP1
import Derived.Test.YteecgdbicokgoaaQ0
import Derived.Test.YteecgdbicokgoaaL0
namespace Go.Proofs.Yteecgdbicokgoaa
open Go.RowKit Go.Shelf
set_option linter.unusedVariables false
set_option linter.unusedSimpArgs false
set_option maxRecDepth 100000
attribute [local go_sem] Oper.semAt_some
/-- A command and its bytes. -/
abbrev Kb := Cm × List Int
abbrev Kb.cs (x : Kb) : List Value := x.1.cs
abbrev kcells (l : List Kb) : List Value := flatC Kb.cs l
/-- A command of parts(..): its bytes are its own. -/
structure KbAt (w : World) (base : Nat) (k : Int) (x : Kb) : Prop where
  e : x.1 = ⟨k, x.1.a0, 0, 0, 0, 0, 0, x.1.bA, x.1.bn, x.1.bc⟩
  l : x.2.length = x.1.bn
  o : Own w base 5 1 x.1.bA x.1.bn x.1.bc (u8s x.2)
/-- How many bytes a part has; the part. -/
def pixN (n : Nat) (p : Pix 6 n) : Nat := min 6 (n - 6 * p.1)
def pixB (b : List Int) (i : Nat) : List Int := (b.drop (6 * i)).take 6
/-- A part told: what is left behind it, and its command: what it tells, and its bytes. -/
def outS (TL : Int → Int → Int) (b : List Int) (n : Nat) (s : Int × List (Int × List Int)) (p : Pix 6 n) : Int × List (Int × List Int) := (s.1 - pixN n p, s.2 ++ [(IntKind.u8.wrap (TL (pixN n p) s.1), pixB b p.1)])
/-- What is left behind parts, and the commands of them. -/
def outD (TL : Int → Int → Int) (b : List Int) (n : Nat) (pre : List (Pix 6 n)) : Int × List (Int × List Int) := pre.foldl (outS TL b n) ((n : Int), [])
theorem outD_snoc (TL : Int → Int → Int) (b : List Int) (n : Nat) (pre : List (Pix 6 n)) (p : Pix 6 n) : outD TL b n (pre ++ [p]) = outS TL b n (outD TL b n pre) p := by
  simp [outD]
theorem outS_len (TL : Int → Int → Int) (b : List Int) (n : Nat) : ∀ (pre : List (Pix 6 n)) (s : Int × List (Int × List Int)), (pre.foldl (outS TL b n) s).2.length = s.2.length + pre.length
  | [], s => by simp
  | p :: ps, s => by rw [List.foldl_cons, outS_len TL b n ps]; simp [outS]; omega
theorem outS_low (TL : Int → Int → Int) (b : List Int) (n : Nat) : ∀ (pre : List (Pix 6 n)) (s : Int × List (Int × List Int)), (pre.foldl (outS TL b n) s).1 ≤ s.1 ∧ s.1 - 6 * pre.length ≤ (pre.foldl (outS TL b n) s).1
  | [], s => by simp
  | p :: ps, s => by
    have h := outS_low TL b n ps (outS TL b n s p)
    have hp : pixN n p ≤ 6 := Nat.min_le_left _ _
    have he : (outS TL b n s p).1 = s.1 - pixN n p := rfl
    rw [he] at h
    rw [List.foldl_cons]
    simp only [List.length_cons]
    constructor
    · have := h.1; omega
    · have := h.2; push_cast; omega
theorem outD_len (TL : Int → Int → Int) (b : List Int) (n : Nat) (pre : List (Pix 6 n)) : (outD TL b n pre).2.length = pre.length := by
  unfold outD
  rw [outS_len]
  simp
theorem outD_low (TL : Int → Int → Int) (b : List Int) (n : Nat) (pre : List (Pix 6 n)) : (outD TL b n pre).1 ≤ n ∧ (n : Int) - 6 * pre.length ≤ (outD TL b n pre).1 := outS_low TL b n pre ((n : Int), [])
theorem blk_kept {A B : World} {row : Option Nat} {B0 : Nat} {g : Nat} {t : TypeId} {cs : Array Value} (h : Blk A g t cs) (hg : A.grownBy B row) (hr : ∀ r, row = some r → B0 ≤ r ∧ ∃ o : Obj, A.heap[r]? = some o ∧ o.isCells = false) : Blk B g t cs :=
  (hg.block g h.lt (fun e => by
    obtain ⟨-, o, ho, hc⟩ := hr g e.symm
    unfold Blk at h
    rw [h] at ho
    injection ho with ho
    subst ho
    cases hc)).trans h
theorem own_kept' {A B : World} {row : Option Nat} {B0 : Nat} {base : Nat} {e : TypeId} {size n c : Nat} {X : Option Addr} {xs : List Value} (h : Own A base e size X n c xs) (hg : A.grownBy B row) (hr : ∀ r, row = some r → B0 ≤ r ∧ ∃ o : Obj, A.heap[r]? = some o ∧ o.isCells = false) : Own B base e size X n c xs :=
  h.kept fun g hgb => by
    obtain ⟨cs, hcs⟩ := h.row hgb
    exact (blk_kept hcs hg hr).trans hcs.symm
/-- What holds between two rounds of parts: 'out', 'left' and the two boxes. -/
structure PI (TL : Int → Int → Int) (b : List Int) (n : Nat) (k : Int) (tf : Value) (w0 : World) (gk gf go gl : Nat) (pre : List (Pix 6 n)) (W : World) : Prop where
  ex : ∃ A c cl, Blk W go 36 #[.slice A cl.length c] ∧ Own W (w0.heap.size + 6) 35 8 A cl.length c (kcells cl) ∧ (∀ x ∈ cl, KbAt W w0.heap.size k x) ∧ cl.map (fun x => (x.1.a0, x.2)) = (outD TL b n pre).2
  lf : Blk W gl 3 #[.int .i64 (outD TL b n pre).1]
  bk : Blk W gk 5 #[.int .u8 k]
  bf : Blk W gf 101 #[tf]
  bel : Below w0.heap.size w0 W
  sz : w0.heap.size + 6 ≤ W.heap.size
theorem PI.own {TL : Int → Int → Int} {b : List Int} {n : Nat} {k : Int} {tf : Value} {w0 : World} {gk gf go gl B0 : Nat} (hB : w0.heap.size ≤ B0) : OwnFrom B0 (PI TL b n k tf w0 gk gf go gl) := fun s A B row h hg hr => by
  obtain ⟨Ax, c, cl, h1, h2, h3, h4⟩ := h.ex
  exact ⟨⟨Ax, c, cl, blk_kept h1 hg hr, own_kept' h2 hg hr, fun x hx => ⟨(h3 x hx).e, (h3 x hx).l, own_kept' (h3 x hx).o hg hr⟩, h4⟩, blk_kept h.lf hg hr, blk_kept h.bk hg hr, blk_kept h.bf hg hr, h.bel.grown hg h.bel.size (fun r e => by have := (hr r e).1; omega), Nat.le_trans h.sz hg.size⟩
theorem info35 : (Try.prog.info? 35).map (fun i => (i.zero, i.size, i.bytes)) = some (some (.agg #[.int .u8 0, .int .u8 0, .int .u8 0, .int .u8 0, .int .u8 0, .int .u8 0, .int .u32 0, .slice none 0 0]), 8, 40) := by kernel_rfl
theorem kcells_snoc (l : List Kb) (x : Kb) : kcells (l ++ [x]) = kcells l ++ x.cs := by
  unfold kcells
  rw [flatC_app]
  simp [flatC]
theorem chunk_stops (d : Nat) (hd : 1 ≤ d) (Bs Bn g o c z n : Nat) (hz : z = 6 ∨ z = 7) (hn : n ≤ 1000) (hc : n ≤ c) (w : World) (hBs : Blk w Bs 22 #[.slice (some ⟨g, o, none⟩) n c]) (hBn : Blk w Bn 3 #[.int .i64 z]) :
    SeqStopsK Fence.wide d Try.prog 86 #[.pointer (some ⟨Bs, 0, none⟩), .pointer (some ⟨Bn, 0, none⟩)] (fun x : Pix z n => #[parV g o z n x.1]) (KpB Bs Bn) (fun ys => ys = pixL z n (parN z n)) (fun _ => True) (parN z n) w := fun l J Jx W hW hJ hJx hY h0 => by
  refine (chunk1_in Fence.wide d trivial rfl hd l Bs Bn g o c z n hz hn hc J Jx (fun s A h => hJ s A A.drew none h ⟨rfl, rfl, rfl, Nat.le_refl _, fun _ _ _ => rfl⟩ (fun r e => by cases e)) hY W (hBs.below hW) (hBn.below hW) h0).mono ?_
  rintro e W' ⟨he, h | ⟨pre, h⟩⟩
  · exact ⟨he, .inl h⟩
  · exact ⟨he, .inr ⟨pre, trivial, h⟩⟩
theorem Rd.part {w : World} {B g o : Nat} {b : List Int} (h : Rd w B (some ⟨g, o, none⟩) (u8s b)) (p k : Nat) : Rd w B (some ⟨g, o + p, none⟩) (u8s ((b.drop p).take k)) := by
  have h1 : Rd w B (some ⟨g, o + p, none⟩) (u8s (b.drop p)) := fun hn => by
    obtain ⟨b', o', e, hb, hc⟩ := h (fun e => hn (by
      have : b = [] := by simpa [u8s] using e
      subst this
      simp [u8s]))
    injection e with e
    injection e with e1 e2
    subst e1
    subst e2
    exact ⟨g, o + p, rfl, hb, fun i u hu => by
      have := hc (p + i) u (by simpa [u8s, List.getElem?_drop] using hu)
      rwa [← Nat.add_assoc] at this⟩
  exact h1.take' k
theorem cut_seq {F : Fence} {n : Nat} {P : Program} {x y : Code} {Q : Exit → Act → World → Prop} {a : Act} {w : World} (K : Act → World → Prop) (hy : ∀ a w, K a w → y.wpIn F n P Q a w) (hx : x.wpIn F n P (Exit.then K Q) a w) : (Code.seq x y).wpIn F n P Q a w :=
  wpIn_seq (wpIn_mono hx fun e a w h => by
    cases e <;> first | exact hy _ _ h | exact h)
set_option maxHeartbeats 8000000 in
theorem parts_some {w : World} {k : Int} {g o n c : Nat} {b : List Int} {ft : Nat} {TL : Int → Int → Int} (hn : b.length = n) (hn1 : 0 < n) (hn2 : n ≤ 1000) (hc : n ≤ c) (hr : Rd w w.heap.size (some ⟨g, o, none⟩) (u8s b)) (hT : ∀ a l w, Calls Try.prog ft #[.int .i64 a, .int .i64 l] w fun e w' => e = .returned (.int .i64 (TL a l)) ∧ w = w') (hft : ft = 35 ∨ ft = 37) :
    Calls Try.prog 34 #[.int .u8 k, .slice (some ⟨g, o, none⟩) n c, .func (.func ft) #[] #[]] w fun e w' => ∃ A cc cl, e = .returned (.slice A cl.length cc) ∧ Own w' w.heap.size 35 8 A cl.length cc (kcells cl) ∧ (∀ x ∈ cl, KbAt w' w.heap.size k x) ∧ cl.map (fun x => (x.1.a0, x.2)) = (outD TL b n (pixL 6 n (parN 6 n))).2 ∧ Below w.heap.size w w' := by
  refine (callsIn_wide (n := 6)).1 ?_
  refine callsIn_of_wp_marks Try.func34 rfl trivial ?_ rfl
  simp only [Try.ntmps34, List.size_toArray, List.length_cons, List.length_nil, Nat.reduceAdd, Nat.reduceSub, Array.replicate_succ, Array.replicate_zero, List.push_toArray, List.append_toArray, List.nil_append, List.cons_append]
  gi_wp2_with (refine ⟨trivial, ?_⟩; gi_at_call 58; refine (chunk_in Fence.wide _ trivial rfl _ _ _ 6 (.inl rfl) _).mono ?_; rintro e w' ⟨rfl, rfl⟩)
  refine wpIn_rangeFunc_ownF rfl (by omega) (gf := 86) (lb := #[.pointer (some ⟨w.heap.size + 1 + 1 + 1 + 1, 0, none⟩), .pointer (some ⟨w.heap.size + 1 + 1 + 1 + 1 + 1, 0, none⟩)]) rfl trivial (enters_of Try.func86 (by kernel_rfl) rfl)
    (chunk_stops _ (by omega) _ _ g o c 6 n (.inl rfl) hn2 hc _ ?b1 ?b2) (fun h k => h.t k) ?keep (Below.refl _ _) (fun _ => rfl)
    (PI TL b n k (.func (.func ft) #[] #[]) w w.heap.size (w.heap.size + 1) (w.heap.size + 1 + 1) (w.heap.size + 1 + 1 + 1)) (fun _ _ _ => False) (PI.own (by simp; omega)) (fun _ _ _ _ _ h _ _ => h) ?first
    (fun x => { tmps := #[.int .u8 k, .slice (some ⟨g, o, none⟩) n c, .func (.func ft) #[] #[], .pointer (some ⟨w.heap.size, 0, none⟩), undef, .pointer (some ⟨w.heap.size + 1, 0, none⟩), .slice none 0 0,
      .pointer (some ⟨w.heap.size + 1 + 1, 0, none⟩), .pointer (some ⟨w.heap.size + 1 + 1 + 1, 0, none⟩), parV g o 6 n x.1, undef, .slice (some ⟨g, o, none⟩) n c, .int .i64 n, .slice (some ⟨g, o, none⟩) n c,
      .func (.func 86) #[] #[.pointer (some ⟨w.heap.size + 1 + 1 + 1 + 1, 0, none⟩), .pointer (some ⟨w.heap.size + 1 + 1 + 1 + 1 + 1, 0, none⟩)], parV g o 6 n x.1,
      undef, undef, undef, undef, undef, undef, undef, undef, undef, undef, undef, undef, undef, undef, undef, undef, undef, undef, undef, undef, undef], defers := [] }) ?assign ?body ?done ?stop
  case stop =>
    rintro D cd pre W _ _ h _
    exact h.elim
  case b1 =>
    have h := Blk.new ((((w.alloc (.cells #[.int .u8 k] 5)).alloc (.cells #[.func (.func ft) #[] #[]] 101)).alloc (.cells #[.slice none 0 0] 36)).alloc (.cells #[.int .i64 n] 3)) 22 #[.slice (some ⟨g, o, none⟩) n c]
    simp only [World.size_alloc] at h
    exact h.alloc _
  case b2 =>
    have h := Blk.new (((((w.alloc (.cells #[.int .u8 k] 5)).alloc (.cells #[.func (.func ft) #[] #[]] 101)).alloc (.cells #[.slice none 0 0] 36)).alloc (.cells #[.int .i64 n] 3)).alloc (.cells #[.slice (some ⟨g, o, none⟩) n c] 22)) 3 #[.int .i64 6]
    simp only [World.size_alloc] at h
    exact h
  case keep =>
    intro W q ob ob' hq _ _ _
    simp only [World.size_alloc] at hq
    exact ⟨World.putObj_heap_other (by omega), World.putObj_heap_other (by omega)⟩
  case first =>
    have h1 := (Blk.new w 5 #[.int .u8 k])
    have h2 := (Blk.new (w.alloc (.cells #[.int .u8 k] 5)) 101 #[.func (.func ft) #[] #[]])
    have h3 := (Blk.new ((w.alloc (.cells #[.int .u8 k] 5)).alloc (.cells #[.func (.func ft) #[] #[]] 101)) 36 #[.slice none 0 0])
    have h4 := (Blk.new (((w.alloc (.cells #[.int .u8 k] 5)).alloc (.cells #[.func (.func ft) #[] #[]] 101)).alloc (.cells #[.slice none 0 0] 36)) 3 #[.int .i64 n])
    simp only [World.size_alloc] at h1 h2 h3 h4
    refine ⟨⟨none, 0, [], (((h3.alloc _).alloc _).alloc _), Own.nil _ _ _ _, fun x hx => (by cases hx), rfl⟩, (h4.alloc _).alloc _, ((((h1.alloc _).alloc _).alloc _).alloc _).alloc _, (((h2.alloc _).alloc _).alloc _).alloc _, ?_, by simp⟩
    exact ((((((Below.refl _ w).alloc (Nat.le_refl _) _).alloc (by simp) _).alloc (by simp; omega) _).alloc (by simp; omega) _).alloc (by simp; omega) _).alloc (by simp; omega) _
  case assign =>
    intro l x W K hK
    gi_wp2
    exact hK
  case done =>
    rintro D xs W _ rfl hPI hK
    obtain ⟨A, cc, cl, h1, h2, h3, h4⟩ := hPI.ex
    have c1 := h1.cell
    have hPI' := PI.own (B0 := w.heap.size) (Nat.le_refl _) _ W (W.putObj D (.deferred none)) (some D) hPI (grownBy_putObj' W D _) (fun r e => by cases e; exact ⟨by simp at *; omega, _, hK, rfl⟩)
    have hr2 := fun r (e : some D = some r) => (by cases e; exact ⟨Nat.zero_le _, _, hK, rfl⟩ : 0 ≤ r ∧ ∃ o : Obj, W.heap[r]? = some o ∧ o.isCells = false)
    have h2' := own_kept' (h2.more (base' := w.heap.size) (by omega)) (grownBy_putObj' W D (.deferred none)) hr2
    have h3' : ∀ y ∈ cl, KbAt (W.putObj D (.deferred none)) w.heap.size k y := fun y hy => ⟨(h3 y hy).e, (h3 y hy).l, own_kept' (h3 y hy).o (grownBy_putObj' W D _) hr2⟩
    have HB := Lib.hid hPI'.bel
    have H2 := Lib.hid h2'
    have H3 := Lib.hid h3'
    have H4 := Lib.hid h4
    clear hPI hPI' h1 h2 h3 h4 h2' h3' hr2
    gi_wp2
    refine ⟨by simp, .inl ⟨_, _, rfl, run_takeDeferred hK, ?_⟩⟩
    exact ⟨_, results_tmp rfl _ _ _, A, cc, cl, rfl, H2.out, H3.out, H4.out, HB.out⟩
  case body =>
    rintro l pre x W hPI hpl
    have b1 := hPI.lf
    have b2 := hPI.bk
    have b3 := hPI.bf
    obtain ⟨lv, hlv⟩ : ∃ lv, (outD TL b n pre).1 = lv := ⟨_, rfl⟩
    rw [hlv] at b1
    obtain ⟨m, hm⟩ : ∃ m, min 6 (n - 6 * x.1) = m := ⟨_, rfl⟩
    have hpv : parV g o 6 n x.1 = .slice (some ⟨g, o + 6 * x.1, none⟩) m m := by unfold parV; rw [hm]
    have hLO : ∀ K, ¬ LetsOut (Exit.then K (Exit.inBlock 1 (ownPostK (KpB (w.heap.size + 1 + 1 + 1 + 1) (w.heap.size + 1 + 1 + 1 + 1 + 1)) (PI TL b n k (.func (.func ft) #[] #[]) w w.heap.size (w.heap.size + 1) (w.heap.size + 1 + 1) (w.heap.size + 1 + 1 + 1)) (fun _ _ _ => False) (pre ++ [x]) W))) := fun K ⟨_, _, h⟩ => h
    have hLO2 : ¬ LetsOut (Exit.inBlock 1 (ownPostK (KpB (w.heap.size + 1 + 1 + 1 + 1) (w.heap.size + 1 + 1 + 1 + 1 + 1)) (PI TL b n k (.func (.func ft) #[] #[]) w w.heap.size (w.heap.size + 1) (w.heap.size + 1 + 1) (w.heap.size + 1 + 1 + 1)) (fun _ _ _ => False) (pre ++ [x]) W)) := fun ⟨_, _, h⟩ => h
    have hHeld : Blk W.drew (w.heap.size + 1 + 1 + 1) 3 #[.int .i64 lv] ∧ Blk W.drew w.heap.size 5 #[.int .u8 k] ∧ Blk W.drew (w.heap.size + 1) 101 #[.func (.func ft) #[] #[]] := ⟨b1.drew, b2.drew, b3.drew⟩
    refine wpIn_block (cut_seq (fun a' W' => ∃ row t23, Blk W' row 35 (cmL k [IntKind.u8.wrap (TL m lv)] 0).cs.toArray ∧ Below W.heap.size W W' ∧ W.heap.size ≤ row ∧
      a' = { tmps := #[.int .u8 k, .slice (some ⟨g, o, none⟩) n c, .func (.func ft) #[] #[], .pointer (some ⟨w.heap.size, 0, none⟩), undef, .pointer (some ⟨w.heap.size + 1, 0, none⟩), .slice none 0 0,
        .pointer (some ⟨w.heap.size + 1 + 1, 0, none⟩), .pointer (some ⟨w.heap.size + 1 + 1 + 1, 0, none⟩), parV g o 6 n x.1, .pointer (some ⟨row, 0, none⟩), .slice (some ⟨g, o, none⟩) n c, .int .i64 n, .slice (some ⟨g, o, none⟩) n c,
        .func (.func 86) #[] #[.pointer (some ⟨w.heap.size + 1 + 1 + 1 + 1, 0, none⟩), .pointer (some ⟨w.heap.size + 1 + 1 + 1 + 1 + 1, 0, none⟩)], parV g o 6 n x.1,
        .int .u8 k, .func (.func ft) #[] #[], parV g o 6 n x.1, .int .i64 m, .int .i64 lv, .int .i64 (TL m lv), .int .u8 (IntKind.u8.wrap (TL m lv)), .slice (some ⟨t23, 0, none⟩) 1 1, (cmL k [IntKind.u8.wrap (TL m lv)] 0).val,
        undef, undef, undef, undef, undef, undef, undef, undef, undef, undef, undef, undef], defers := [] }) ?_ ?_)
    · rintro _ W1 ⟨row, t23, B1, hb1, hrow, rfl⟩
      obtain ⟨Ac, cc, cl, h1, h2, h3, h4⟩ := hPI.ex
      have hxl : (pixB b x.1).length = m := by unfold pixB; rw [List.length_take, List.length_drop, hn]; exact hm
      have hb01 : Below w.heap.size w W1 := hPI.bel.trans (hb1.mono hPI.bel.size)
      have hr1 := Rd.part (hr.bel hb01) (6 * x.1) 6
      have CL := Lib.hid (clone_any (some ⟨g, o + 6 * x.1, none⟩) m m (pixB b x.1) W1 hxl hr1 (fun e => by cases e) (by omega))
      rw [hpv]
      obtain ⟨y, hy⟩ : ∃ y, cmL k [IntKind.u8.wrap (TL m lv)] 0 = y := ⟨_, rfl⟩
      rw [hy] at B1 ⊢
      refine wpIn_seq (lit_round (by kernel_rfl) (hLO _) ?_)
      have HLT := Lib.hid B1.lt
      have HM := Lib.hid (And.intro hm (And.intro hxl hlv))
      have HX := Lib.hid (And.intro h1 (And.intro h2 (And.intro h3 h4)))
      have HP := Lib.hid hPI
      have HB := Lib.hid hb01
      have HB1 := Lib.hid (And.intro hb1 hrow)
      have HY := Lib.hid hy
      have G1 := Lib.hid (And.intro b1 (And.intro b2 b3))
      clear h1 h2 h3 h4 hPI hb01 hb1 hrow hr1 hr hT hHeld hlv hm hy b1 b2 b3
      go_wp2_with (first
        | (refine CL.out.mono ?_; rintro e w2 ⟨A, cA, rfl, hoA, hbA⟩; have B2 := B1.below hbA)
        | (refine wpList_stB rfl 22 (.tmp 27) (.tmp 26) rfl (.slice A m cA) 7 rfl rfl B2 (by simp [Value.cells]) (by kernel_rfl) (by simp [Value.cells, Value.oneCell']) ?_; intro w3 B3 hg3))
      have B3 : Blk w3 row 35 ({ y with bA := A, bn := m, bc := cA } : Cm).cs.toArray := B3
      obtain ⟨y2, hy2⟩ : ∃ y2 : Cm, ({ y with bA := A, bn := m, bc := cA } : Cm) = y2 := ⟨_, rfl⟩
      rw [hy2] at B3
      have hW3 : Below W.heap.size W w3 := bel_grown (HB1.out.1.trans (hbA.mono HB1.out.1.size)) hg3 HB1.out.2
      have g3 := HX.out.1.below hW3
      have o3 := HX.out.2.1.below hW3
      have l3 := G1.out.1.below hW3
      have oA3 := hoA.grown hg3 (.inr (fun e => by have := (hoA.lt e).1; have := HLT.out; have := B1.lt; omega))
      have c3 := B3.cell
      have HL := Lib.hid (And.intro hW3 (And.intro g3 (And.intro o3 (And.intro l3 oA3))))
      have hsz3 : w.heap.size + 6 ≤ w3.heap.size := Nat.le_trans HP.out.sz hW3.size
      have hcl : cl.length = pre.length := by
        have h := congrArg List.length HX.out.2.2.2
        rw [List.length_map, outD_len] at h
        exact h
      have hpn : pre.length ≤ 1000 := by unfold parN at hpl; omega
      have cg3 := g3.cell
      have RB := Lib.hid (Blk.rd (cs := y2.cs) (Blk.new w3 35 y2.cs.toArray))
      have OA := Lib.hid (o3.alloc (.cells y2.cs.toArray 35))
      have GA := Lib.hid (g3.alloc (.cells y2.cs.toArray 35))
      have HCL := Lib.hid (And.intro hcl hpn)
      have hm1 : cl.length + 1 ≤ maxLen := by unfold maxLen; omega
      have hm2 : (cl.length + 1) * 40 ≤ 140737488355328 := by omega
      have hm3 : w.heap.size + 6 ≤ (w3.alloc (.cells y2.cs.toArray 35)).heap.size := by simp; omega
      have hne : ∀ q, blkOf Ac = some q → w.heap.size + 6 ≤ q := fun q hq => (o3.lt hq).1
      refine wpIn_seq (lit_round (by kernel_rfl) (hLO _) ?_)
      have HE := Lib.hid (And.intro hm1 (And.intro hm2 (And.intro hm3 (And.intro hne hsz3))))
      clear hcl hpn hm1 hm2 hm3 hne hsz3 o3 hW3 l3 oA3 hpl hLO
      have B3k := Lib.hid B3
      clear B3 B1 g3 B2 hoA hbA hg3
      go_wp2_with (first
        | (at_builtin; refine wpList_app _ rfl (.tmp 28) (.tmp 30) 36 rfl (w.heap.size + 6) 35 (.agg #[.int .u8 0, .int .u8 0, .int .u8 0, .int .u8 0, .int .u8 0, .int .u8 0, .int .u32 0, .slice none 0 0]) 8 40 Try.underlying36 info35 rfl (by decide) Ac cl.length cc _ rfl OA.out _ _ 1 1 y2.cs rfl rfl RB.out (by simp [Cm.cs, Value.oneCell']) HE.out.1 HE.out.2.1 HE.out.2.2.1 ?_; intro A4 c4 w4 hown4 hg4 hbk4; have g4 := GA.out.grown hg4 (by intro e; have := HE.out.2.2.2.1 _ e.symm; omega))
        | (refine wpList_stB rfl 36 (.tmp 7) (.tmp 31) rfl (.slice A4 (cl.length + 1) c4) 0 rfl rfl g4 (by simp [Value.cells]) (by kernel_rfl) (by simp [Value.cells, Value.oneCell']) ?_; intro w5 g5 hg5))
      have g5 : Blk w5 (w.heap.size + 1 + 1) 36 #[.slice A4 (cl.length + 1) c4] := g5
      have l5 := ((HL.out.2.2.2.1.alloc (.cells y2.cs.toArray 35)).grown hg4 (by intro e; have := HE.out.2.2.2.1 _ e.symm; omega)).grown hg5 (by intro e; injection e with e; omega)
      have hwr : IntKind.i64.wrap (lv - (m : Int)) = lv - m := by
        have h1 := outD_low TL b n pre
        have h2 := HCL.out.2
        have h3 := HM.out.1
        rw [HM.out.2.2] at h1
        exact IntWalk.i64_in _ (by omega)
      have FIN : Hid (∀ w6, Blk w6 (w.heap.size + 1 + 1 + 1) 3 #[.int .i64 (lv - m)] → w5.grownBy w6 (some (w.heap.size + 1 + 1 + 1)) → KeepsOthers W w6 ∧ KpB (w.heap.size + 1 + 1 + 1 + 1) (w.heap.size + 1 + 1 + 1 + 1 + 1) W w6 ∧ PI TL b n k (.func (.func ft) #[] #[]) w w.heap.size (w.heap.size + 1) (w.heap.size + 1 + 1) (w.heap.size + 1 + 1 + 1) (pre ++ [x]) w6) := Lib.hid fun w6 l6 hg6 => by
        have hW := HP.out.sz
        have hne := HE.out.2.2.2.1
        have hch : Chg (fun i => some i = blkOf Ac ∨ i = w.heap.size + 1 + 1 ∨ i = w.heap.size + 1 + 1 + 1) W w6 := by
          refine (((((Chg.of_below HL.out.1 _).alloc (.cells y2.cs.toArray 35)).trans (Chg.of_grown hg4) ?_).trans (Chg.of_grown hg5) ?_).trans (Chg.of_grown hg6) ?_)
          · intro i _ h; exact .inl h
          · intro i _ h; injection h with h; exact .inr (.inl h)
          · intro i _ h; injection h with h; exact .inr (.inr h)
        obtain ⟨h1, h2, h3, h4⟩ := HX.out
        have h25 : w3.heap.size < (w3.alloc (.cells y2.cs.toArray 35)).heap.size := by simp
        have hsz6 := hch.size
        refine ⟨⟨hch.size, fun j ob hj ho => (hch.block j (Array.getElem?_eq_some_iff.1 hj).1 ?_).trans hj⟩, ⟨hch.block _ (by omega) ?_, hch.block _ (by omega) ?_⟩, ⟨⟨A4, c4, cl ++ [(y2, pixB b x.1)], ?_, ?_, ?_, ?_⟩, ?_, ?_, ?_, ?_, ?_⟩⟩
        · rintro (h | h | h)
          · obtain ⟨cs, hcs⟩ := h2.row h.symm
            unfold Blk at hcs
            rw [hcs] at hj
            injection hj with hj
            subst hj
            cases ho
          · subst h
            have hcs := h1
            unfold Blk at hcs
            rw [hcs] at hj
            injection hj with hj
            subst hj
            cases ho
          · subst h
            have hcs := G1.out.1
            unfold Blk at hcs
            rw [hcs] at hj
            injection hj with hj
            subst hj
            cases ho
        · rintro (h | h | h)
          · have := hne _ h.symm; omega
          · omega
          · omega
        · rintro (h | h | h)
          · have := hne _ h.symm; omega
          · omega
          · omega
        · have := g5.grown hg6 (by intro e; injection e with e; omega)
          simpa using this
        · have hq : ∀ q, blkOf A4 = some q → w.heap.size + 6 ≤ q := fun q hq => (hown4.lt hq).1
          have h5 := hown4.grown hg5 (.inr (fun e => by have := hq _ e; omega))
          have h6 := h5.grown hg6 (.inr (fun e => by have := hq _ e; omega))
          rw [kcells_snoc]
          simpa using h6
        · intro z hz
          rcases List.mem_append.1 hz with hz | hz
          · refine ⟨(h3 z hz).e, (h3 z hz).l, (h3 z hz).o.chg hch ?_⟩
            rintro q hq (h | h | h)
            · obtain ⟨cs, hcs⟩ := h2.row h.symm
              exact (h3 z hz).o.ne_blk hq hcs (by decide) rfl
            · subst h; exact (h3 z hz).o.ne_blk hq h1 (by decide) rfl
            · subst h; exact (h3 z hz).o.ne_blk hq G1.out.1 (by decide) rfl
          · obtain rfl : z = (y2, pixB b x.1) := by simpa using hz
            have oA := HL.out.2.2.2.2.alloc (.cells y2.cs.toArray 35)
            have hqA : ∀ q, blkOf A = some q → W.heap.size ≤ q := fun q hq => Nat.le_trans HB1.out.1.size (oA.lt hq).1
            have oA4 := oA.grown hg4 (by
              rcases hAb : blkOf A with _ | q
              · exact .inl rfl
              · refine .inr (fun e => ?_)
                have := hqA q hAb
                have := (h2.lt e.symm).2
                omega)
            have oA5 := oA4.grown hg5 (.inr (fun e => by have := hqA _ e; omega))
            have oA6 := oA5.grown hg6 (.inr (fun e => by have := hqA _ e; omega))
            refine ⟨?_, ?_, ?_⟩
            · show y2 = _
              rw [← hy2, ← HY.out]
              rfl
            · show (pixB b x.1).length = y2.bn
              rw [HM.out.2.1, ← hy2]
            · show Own w6 w.heap.size 5 1 y2.bA y2.bn y2.bc _
              rw [← hy2]
              exact oA6.more (by have := HB.out.size; omega)
        · rw [outD_snoc, List.map_append, h4]
          unfold outS
          rw [HM.out.2.2]
          have hpx : pixN n x = m := HM.out.1
          rw [hpx, ← hy2, ← HY.out]
          rfl
        · rw [outD_snoc]
          unfold outS
          rw [HM.out.2.2]
          have hpx : pixN n x = m := HM.out.1
          rw [hpx]
          exact l6
        · exact G1.out.2.1.chg hch (by
            rintro (h | h | h)
            · have := hne _ h.symm; omega
            · omega
            · omega)
        · exact G1.out.2.2.chg hch (by
            rintro (h | h | h)
            · have := hne _ h.symm; omega
            · omega
            · omega)
        · exact HP.out.bel.trans (hch.below (fun i _ h => by
            rcases h with h | h | h
            · have := hne _ h.symm; omega
            · omega
            · omega) HP.out.bel.size)
        · exact Nat.le_trans hW hsz6
      have cl5 := l5.cell
      refine lit_round (by kernel_rfl) hLO2 ?_
      clear hg4 hg5 g4 g5 hown4 hbk4 cg3 c3 hLO2
      go_wp2_with (refine wpList_stB rfl 3 (.tmp 8) (.tmp 35) rfl (.int .i64 (lv - m)) 0 rfl rfl l5 (by simp [Value.cells]) (by kernel_rfl) (by simp [Value.cells, Value.oneCell']) ?_; intro w6 l6 hg6)
      have hfin := FIN.out w6 l6 hg6
      first
        | exact hfin
    · rw [hpv]
      have HT := Lib.hid (hT m lv)
      have hlt1 := b1.lt
      have hlt2 := b2.lt
      have hlt3 := b3.lt
      refine region_round (S := fun W' => Blk W' (w.heap.size + 1 + 1 + 1) 3 #[.int .i64 lv] ∧ Blk W' w.heap.size 5 #[.int .u8 k] ∧ Blk W' (w.heap.size + 1) 101 #[.func (.func ft) #[] #[]]) (by kernel_rfl) (by kernel_rfl) (hLO _) ?_
      have hbW : Below W.heap.size W W.drew := (Below.refl _ _).drew
      generalize W.drew = V at hHeld hbW ⊢
      clear b1 b2 b3 hLO hLO2 hPI hT hr hm
      refine wpAnyH_take (i := 0) (oi := _) (v := ?_) rfl (by kernel_rfl) (by kernel_rfl) (by kernel_rfl) (fun _ _ _ h => h) (Or.inl ⟨by rfl, ?_⟩) hHeld ?_
      rotate_left
      · intro w' hSw
        have z1 := hSw.1.cell
        have z2 := hSw.2.1.cell
        have z3 := hSw.2.2.cell
        go_simp
        first | done | with_reducible rfl
      try simp only [Act.put, List.setIfInBounds_toArray, List.set_cons_zero, List.set_cons_succ]
      refine wpAnyH_take (i := 1) (oi := _) (v := ?_) rfl (by kernel_rfl) (by kernel_rfl) (by kernel_rfl) (fun _ _ _ h => h) (Or.inl ⟨by rfl, ?_⟩) hHeld ?_
      rotate_left
      · intro w' hSw
        have z1 := hSw.1.cell
        have z2 := hSw.2.1.cell
        have z3 := hSw.2.2.cell
        go_simp
        first | done | with_reducible rfl
      try simp only [Act.put, List.setIfInBounds_toArray, List.set_cons_zero, List.set_cons_succ]
      refine wpAnyH_take (i := 2) (oi := _) (v := ?_) rfl (by kernel_rfl) (by kernel_rfl) (by kernel_rfl) (fun _ _ _ h => h) (Or.inl ⟨by rfl, ?_⟩) hHeld ?_
      rotate_left
      · intro w' hSw
        have z1 := hSw.1.cell
        have z2 := hSw.2.1.cell
        have z3 := hSw.2.2.cell
        go_simp
        first | done | with_reducible rfl
      try simp only [Act.put, List.setIfInBounds_toArray, List.set_cons_zero, List.set_cons_succ]
      refine wpAnyH_take (i := 3) (oi := _) (v := ?_) rfl (by kernel_rfl) (by kernel_rfl) (by kernel_rfl) (fun _ _ _ h => h) (Or.inl ⟨by rfl, ?_⟩) hHeld ?_
      rotate_left
      · intro w' hSw
        have z1 := hSw.1.cell
        have z2 := hSw.2.1.cell
        have z3 := hSw.2.2.cell
        go_simp
        first | done | with_reducible rfl
      try simp only [Act.put, List.setIfInBounds_toArray, List.set_cons_zero, List.set_cons_succ]
      refine wpAnyH_take (i := 4) (oi := _) (v := ?_) rfl (by kernel_rfl) (by kernel_rfl) (by kernel_rfl) (fun _ _ _ h => h) (Or.inl ⟨by rfl, ?_⟩) hHeld ?_
      rotate_left
      · intro w' hSw
        have z1 := hSw.1.cell
        have z2 := hSw.2.1.cell
        have z3 := hSw.2.2.cell
        go_simp
        first | done | with_reducible rfl
      try simp only [Act.put, List.setIfInBounds_toArray, List.set_cons_zero, List.set_cons_succ]
      rcases hft with rfl | rfl
      all_goals
        refine wpAnyH_ready (rs := [5, 9]) (by kernel_rfl) (by simp) ?_
        refine AllReadyH.cons rfl (fun Kq5 hKq5 => ?_) ?_
        · skip
          go_simp
          refine (HT.out _).mono ?_
          rintro e wq5 ⟨rfl, rfl⟩
          refine hKq5.out _ _ hHeld (fun hHq5 => ?_)
          try simp only [Act.put, List.setIfInBounds_toArray, List.set_cons_zero, List.set_cons_succ]
          refine wpAnyH_take (i := 6) (oi := _) (v := ?_) rfl (by kernel_rfl) (by kernel_rfl) (by kernel_rfl) (fun _ _ _ h => h) (Or.inl ⟨by rfl, ?_⟩) hHq5 ?_
          rotate_left
          · intro w' hSw
            go_simp
            first | done | with_reducible rfl
          try simp only [Act.put, List.setIfInBounds_toArray, List.set_cons_zero, List.set_cons_succ]
          refine wpAnyH_ready (rs := [7, 9]) (by kernel_rfl) (by simp) ?_
          refine AllReadyH.cons rfl (fun Kq57 hKq57 => ?_) ?_
          · skip
            go_simp
            generalize hVq57 : World.alloc V (.cells #[.int .u8 (IntKind.u8.wrap (TL m lv))] 5) = Vq57
            have nq57 : Blk Vq57 V.heap.size 5 #[.int .u8 (IntKind.u8.wrap (TL m lv))] := hVq57 ▸ Blk.new V 5 #[.int .u8 (IntKind.u8.wrap (TL m lv))]
            have rlq57 := hbW.size
            have hbq57 : Below W.heap.size W Vq57 := hVq57 ▸ hbW.alloc hbW.size (.cells #[.int .u8 (IntKind.u8.wrap (TL m lv))] 5)
            have hsq57 : _ ∧ _ ∧ _ := ⟨hHq5.1.alloc (.cells #[.int .u8 (IntKind.u8.wrap (TL m lv))] 5), hHq5.2.1.alloc (.cells #[.int .u8 (IntKind.u8.wrap (TL m lv))] 5), hHq5.2.2.alloc (.cells #[.int .u8 (IntKind.u8.wrap (TL m lv))] 5)⟩
            rw [hVq57] at hsq57
            clear hVq57
            refine hKq57.out _ _ hsq57 (fun hHq57 => ?_)
            try simp only [Act.put, List.setIfInBounds_toArray, List.set_cons_zero, List.set_cons_succ]
            refine wpAnyH_ready (rs := [8, 9]) (by kernel_rfl) (by simp) ?_
            refine AllReadyH.cons rfl (fun Kq578 hKq578 => ?_) ?_
            · skip
              go_simp
              refine (small_any (k := k) (xs := [IntKind.u8.wrap (TL m lv)]) (n := 1) (c := 1) rfl (by decide) (by decide) (Blk.rd nq57)).mono ?_
              rintro e wq578 ⟨rfl, hqq578⟩
              have hbq578 := hbq57.trans (hqq578.mono hbq57.size)
              refine hKq578.out _ _ ⟨hHq57.1.below hqq578, hHq57.2.1.below hqq578, hHq57.2.2.below hqq578⟩ (fun hHq578 => ?_)
              try simp only [Act.put, List.setIfInBounds_toArray, List.set_cons_zero, List.set_cons_succ]
              refine wpAnyH_ready (rs := [9]) (by kernel_rfl) (by simp) ?_
              refine AllReadyH.cons rfl (fun Kq5789 hKq5789 => ?_) AllReadyH.nil
              go_simp
              generalize hVq5789 : World.alloc wq578 (.cells #[.int .u8 0, .int .u8 0, .int .u8 0, .int .u8 0, .int .u8 0, .int .u8 0, .int .u32 0, .slice none 0 0] 35) = Vq5789
              have nq5789 : Blk Vq5789 wq578.heap.size 35 #[.int .u8 0, .int .u8 0, .int .u8 0, .int .u8 0, .int .u8 0, .int .u8 0, .int .u32 0, .slice none 0 0] := hVq5789 ▸ Blk.new wq578 35 #[.int .u8 0, .int .u8 0, .int .u8 0, .int .u8 0, .int .u8 0, .int .u8 0, .int .u32 0, .slice none 0 0]
              have rlq5789 := hbq578.size
              have hbq5789 : Below W.heap.size W Vq5789 := hVq5789 ▸ hbq578.alloc hbq578.size (.cells #[.int .u8 0, .int .u8 0, .int .u8 0, .int .u8 0, .int .u8 0, .int .u8 0, .int .u32 0, .slice none 0 0] 35)
              have hsq5789 : _ ∧ _ ∧ _ := ⟨hHq578.1.alloc (.cells #[.int .u8 0, .int .u8 0, .int .u8 0, .int .u8 0, .int .u8 0, .int .u8 0, .int .u32 0, .slice none 0 0] 35), hHq578.2.1.alloc (.cells #[.int .u8 0, .int .u8 0, .int .u8 0, .int .u8 0, .int .u8 0, .int .u8 0, .int .u32 0, .slice none 0 0] 35), hHq578.2.2.alloc (.cells #[.int .u8 0, .int .u8 0, .int .u8 0, .int .u8 0, .int .u8 0, .int .u8 0, .int .u32 0, .slice none 0 0] 35)⟩
              rw [hVq5789] at hsq5789
              clear hVq5789
              refine hKq5789.out _ _ hsq5789 (fun hHq5789 => ?_)
              try simp only [Act.put, List.setIfInBounds_toArray, List.set_cons_zero, List.set_cons_succ]
              refine wpAnyH_ready (rs := [10]) (by kernel_rfl) (by simp) ?_
              refine AllReadyH.cons rfl (fun Kq578910 hKq578910 => ?_) AllReadyH.nil
              rw [if_pos (by rfl)]
              refine wp_stB 35 (.tmp 10) (.tmp 24) rfl (cmL k [IntKind.u8.wrap (TL m lv)] 0).val 0 rfl rfl nq5789 (by simp [Cm.val, Value.cells]) (by kernel_rfl) (by simp [Cm.val, cmL, cm, Value.cells, Value.oneCell']) ?_
              intro wq578910 Bq578910 hgq578910
              refine hKq578910.out _ _ ⟨hHq5789.1.grown hgq578910 (by intro e; injection e with e; omega), hHq5789.2.1.grown hgq578910 (by intro e; injection e with e; omega), hHq5789.2.2.grown hgq578910 (by intro e; injection e with e; omega)⟩ (fun hHq578910 => ?_)
              try simp only [Act.put, List.setIfInBounds_toArray, List.set_cons_zero, List.set_cons_succ]
              exact ⟨rfl, _, _, Bq578910, bel_grown hbq5789 hgq578910 rlq5789, rlq5789, rfl⟩
            refine AllReadyH.cons rfl (fun Kq579 hKq579 => ?_) AllReadyH.nil
            go_simp
            generalize hVq579 : World.alloc Vq57 (.cells #[.int .u8 0, .int .u8 0, .int .u8 0, .int .u8 0, .int .u8 0, .int .u8 0, .int .u32 0, .slice none 0 0] 35) = Vq579
            have nq579 : Blk Vq579 Vq57.heap.size 35 #[.int .u8 0, .int .u8 0, .int .u8 0, .int .u8 0, .int .u8 0, .int .u8 0, .int .u32 0, .slice none 0 0] := hVq579 ▸ Blk.new Vq57 35 #[.int .u8 0, .int .u8 0, .int .u8 0, .int .u8 0, .int .u8 0, .int .u8 0, .int .u32 0, .slice none 0 0]
            have rlq579 := hbq57.size
            have hbq579 : Below W.heap.size W Vq579 := hVq579 ▸ hbq57.alloc hbq57.size (.cells #[.int .u8 0, .int .u8 0, .int .u8 0, .int .u8 0, .int .u8 0, .int .u8 0, .int .u32 0, .slice none 0 0] 35)
            have hsq579 : _ ∧ _ ∧ _ := ⟨hHq57.1.alloc (.cells #[.int .u8 0, .int .u8 0, .int .u8 0, .int .u8 0, .int .u8 0, .int .u8 0, .int .u32 0, .slice none 0 0] 35), hHq57.2.1.alloc (.cells #[.int .u8 0, .int .u8 0, .int .u8 0, .int .u8 0, .int .u8 0, .int .u8 0, .int .u32 0, .slice none 0 0] 35), hHq57.2.2.alloc (.cells #[.int .u8 0, .int .u8 0, .int .u8 0, .int .u8 0, .int .u8 0, .int .u8 0, .int .u32 0, .slice none 0 0] 35)⟩
            rw [hVq579] at hsq579
            have tq579 := nq57.alloc (.cells #[.int .u8 0, .int .u8 0, .int .u8 0, .int .u8 0, .int .u8 0, .int .u8 0, .int .u32 0, .slice none 0 0] 35)
            rw [hVq579] at tq579
            clear hVq579
            refine hKq579.out _ _ hsq579 (fun hHq579 => ?_)
            try simp only [Act.put, List.setIfInBounds_toArray, List.set_cons_zero, List.set_cons_succ]
            refine wpAnyH_ready (rs := [8]) (by kernel_rfl) (by simp) ?_
            refine AllReadyH.cons rfl (fun Kq5798 hKq5798 => ?_) AllReadyH.nil
            go_simp
            refine (small_any (k := k) (xs := [IntKind.u8.wrap (TL m lv)]) (n := 1) (c := 1) rfl (by decide) (by decide) (Blk.rd tq579)).mono ?_
            rintro e wq5798 ⟨rfl, hqq5798⟩
            have hbq5798 := hbq579.trans (hqq5798.mono hbq579.size)
            have rq5798 := nq579.below hqq5798
            refine hKq5798.out _ _ ⟨hHq579.1.below hqq5798, hHq579.2.1.below hqq5798, hHq579.2.2.below hqq5798⟩ (fun hHq5798 => ?_)
            try simp only [Act.put, List.setIfInBounds_toArray, List.set_cons_zero, List.set_cons_succ]
            refine wpAnyH_ready (rs := [10]) (by kernel_rfl) (by simp) ?_
            refine AllReadyH.cons rfl (fun Kq579810 hKq579810 => ?_) AllReadyH.nil
            rw [if_pos (by rfl)]
            refine wp_stB 35 (.tmp 10) (.tmp 24) rfl (cmL k [IntKind.u8.wrap (TL m lv)] 0).val 0 rfl rfl rq5798 (by simp [Cm.val, Value.cells]) (by kernel_rfl) (by simp [Cm.val, cmL, cm, Value.cells, Value.oneCell']) ?_
            intro wq579810 Bq579810 hgq579810
            refine hKq579810.out _ _ ⟨hHq5798.1.grown hgq579810 (by intro e; injection e with e; omega), hHq5798.2.1.grown hgq579810 (by intro e; injection e with e; omega), hHq5798.2.2.grown hgq579810 (by intro e; injection e with e; omega)⟩ (fun hHq579810 => ?_)
            try simp only [Act.put, List.setIfInBounds_toArray, List.set_cons_zero, List.set_cons_succ]
            exact ⟨rfl, _, _, Bq579810, bel_grown hbq5798 hgq579810 rlq579, rlq579, rfl⟩
          refine AllReadyH.cons rfl (fun Kq59 hKq59 => ?_) AllReadyH.nil
          go_simp
          generalize hVq59 : World.alloc V (.cells #[.int .u8 0, .int .u8 0, .int .u8 0, .int .u8 0, .int .u8 0, .int .u8 0, .int .u32 0, .slice none 0 0] 35) = Vq59
          have nq59 : Blk Vq59 V.heap.size 35 #[.int .u8 0, .int .u8 0, .int .u8 0, .int .u8 0, .int .u8 0, .int .u8 0, .int .u32 0, .slice none 0 0] := hVq59 ▸ Blk.new V 35 #[.int .u8 0, .int .u8 0, .int .u8 0, .int .u8 0, .int .u8 0, .int .u8 0, .int .u32 0, .slice none 0 0]
          have rlq59 := hbW.size
          have hbq59 : Below W.heap.size W Vq59 := hVq59 ▸ hbW.alloc hbW.size (.cells #[.int .u8 0, .int .u8 0, .int .u8 0, .int .u8 0, .int .u8 0, .int .u8 0, .int .u32 0, .slice none 0 0] 35)
          have hsq59 : _ ∧ _ ∧ _ := ⟨hHq5.1.alloc (.cells #[.int .u8 0, .int .u8 0, .int .u8 0, .int .u8 0, .int .u8 0, .int .u8 0, .int .u32 0, .slice none 0 0] 35), hHq5.2.1.alloc (.cells #[.int .u8 0, .int .u8 0, .int .u8 0, .int .u8 0, .int .u8 0, .int .u8 0, .int .u32 0, .slice none 0 0] 35), hHq5.2.2.alloc (.cells #[.int .u8 0, .int .u8 0, .int .u8 0, .int .u8 0, .int .u8 0, .int .u8 0, .int .u32 0, .slice none 0 0] 35)⟩
          rw [hVq59] at hsq59
          clear hVq59
          refine hKq59.out _ _ hsq59 (fun hHq59 => ?_)
          try simp only [Act.put, List.setIfInBounds_toArray, List.set_cons_zero, List.set_cons_succ]
          refine wpAnyH_ready (rs := [7]) (by kernel_rfl) (by simp) ?_
          refine AllReadyH.cons rfl (fun Kq597 hKq597 => ?_) AllReadyH.nil
          go_simp
          generalize hVq597 : World.alloc Vq59 (.cells #[.int .u8 (IntKind.u8.wrap (TL m lv))] 5) = Vq597
          have nq597 : Blk Vq597 Vq59.heap.size 5 #[.int .u8 (IntKind.u8.wrap (TL m lv))] := hVq597 ▸ Blk.new Vq59 5 #[.int .u8 (IntKind.u8.wrap (TL m lv))]
          have rlq597 := hbq59.size
          have hbq597 : Below W.heap.size W Vq597 := hVq597 ▸ hbq59.alloc hbq59.size (.cells #[.int .u8 (IntKind.u8.wrap (TL m lv))] 5)
          have hsq597 : _ ∧ _ ∧ _ := ⟨hHq59.1.alloc (.cells #[.int .u8 (IntKind.u8.wrap (TL m lv))] 5), hHq59.2.1.alloc (.cells #[.int .u8 (IntKind.u8.wrap (TL m lv))] 5), hHq59.2.2.alloc (.cells #[.int .u8 (IntKind.u8.wrap (TL m lv))] 5)⟩
          rw [hVq597] at hsq597
          have rq597 := nq59.alloc (.cells #[.int .u8 (IntKind.u8.wrap (TL m lv))] 5)
          rw [hVq597] at rq597
          clear hVq597
          refine hKq597.out _ _ hsq597 (fun hHq597 => ?_)
          try simp only [Act.put, List.setIfInBounds_toArray, List.set_cons_zero, List.set_cons_succ]
          refine wpAnyH_ready (rs := [8]) (by kernel_rfl) (by simp) ?_
          refine AllReadyH.cons rfl (fun Kq5978 hKq5978 => ?_) AllReadyH.nil
          go_simp
          refine (small_any (k := k) (xs := [IntKind.u8.wrap (TL m lv)]) (n := 1) (c := 1) rfl (by decide) (by decide) (Blk.rd nq597)).mono ?_
          rintro e wq5978 ⟨rfl, hqq5978⟩
          have hbq5978 := hbq597.trans (hqq5978.mono hbq597.size)
          have rq5978 := rq597.below hqq5978
          refine hKq5978.out _ _ ⟨hHq597.1.below hqq5978, hHq597.2.1.below hqq5978, hHq597.2.2.below hqq5978⟩ (fun hHq5978 => ?_)
          try simp only [Act.put, List.setIfInBounds_toArray, List.set_cons_zero, List.set_cons_succ]
          refine wpAnyH_ready (rs := [10]) (by kernel_rfl) (by simp) ?_
          refine AllReadyH.cons rfl (fun Kq597810 hKq597810 => ?_) AllReadyH.nil
          rw [if_pos (by rfl)]
          refine wp_stB 35 (.tmp 10) (.tmp 24) rfl (cmL k [IntKind.u8.wrap (TL m lv)] 0).val 0 rfl rfl rq5978 (by simp [Cm.val, Value.cells]) (by kernel_rfl) (by simp [Cm.val, cmL, cm, Value.cells, Value.oneCell']) ?_
          intro wq597810 Bq597810 hgq597810
          refine hKq597810.out _ _ ⟨hHq5978.1.grown hgq597810 (by intro e; injection e with e; omega), hHq5978.2.1.grown hgq597810 (by intro e; injection e with e; omega), hHq5978.2.2.grown hgq597810 (by intro e; injection e with e; omega)⟩ (fun hHq597810 => ?_)
          try simp only [Act.put, List.setIfInBounds_toArray, List.set_cons_zero, List.set_cons_succ]
          exact ⟨rfl, _, _, Bq597810, bel_grown hbq5978 hgq597810 rlq59, rlq59, rfl⟩
        refine AllReadyH.cons rfl (fun Kq9 hKq9 => ?_) AllReadyH.nil
        go_simp
        generalize hVq9 : World.alloc V (.cells #[.int .u8 0, .int .u8 0, .int .u8 0, .int .u8 0, .int .u8 0, .int .u8 0, .int .u32 0, .slice none 0 0] 35) = Vq9
        have nq9 : Blk Vq9 V.heap.size 35 #[.int .u8 0, .int .u8 0, .int .u8 0, .int .u8 0, .int .u8 0, .int .u8 0, .int .u32 0, .slice none 0 0] := hVq9 ▸ Blk.new V 35 #[.int .u8 0, .int .u8 0, .int .u8 0, .int .u8 0, .int .u8 0, .int .u8 0, .int .u32 0, .slice none 0 0]
        have rlq9 := hbW.size
        have hbq9 : Below W.heap.size W Vq9 := hVq9 ▸ hbW.alloc hbW.size (.cells #[.int .u8 0, .int .u8 0, .int .u8 0, .int .u8 0, .int .u8 0, .int .u8 0, .int .u32 0, .slice none 0 0] 35)
        have hsq9 : _ ∧ _ ∧ _ := ⟨hHeld.1.alloc (.cells #[.int .u8 0, .int .u8 0, .int .u8 0, .int .u8 0, .int .u8 0, .int .u8 0, .int .u32 0, .slice none 0 0] 35), hHeld.2.1.alloc (.cells #[.int .u8 0, .int .u8 0, .int .u8 0, .int .u8 0, .int .u8 0, .int .u8 0, .int .u32 0, .slice none 0 0] 35), hHeld.2.2.alloc (.cells #[.int .u8 0, .int .u8 0, .int .u8 0, .int .u8 0, .int .u8 0, .int .u8 0, .int .u32 0, .slice none 0 0] 35)⟩
        rw [hVq9] at hsq9
        clear hVq9
        refine hKq9.out _ _ hsq9 (fun hHq9 => ?_)
        try simp only [Act.put, List.setIfInBounds_toArray, List.set_cons_zero, List.set_cons_succ]
        refine wpAnyH_ready (rs := [5]) (by kernel_rfl) (by simp) ?_
        refine AllReadyH.cons rfl (fun Kq95 hKq95 => ?_) AllReadyH.nil
        go_simp
        refine (HT.out _).mono ?_
        rintro e wq95 ⟨rfl, rfl⟩
        refine hKq95.out _ _ hHq9 (fun hHq95 => ?_)
        try simp only [Act.put, List.setIfInBounds_toArray, List.set_cons_zero, List.set_cons_succ]
        refine wpAnyH_take (i := 6) (oi := _) (v := ?_) rfl (by kernel_rfl) (by kernel_rfl) (by kernel_rfl) (fun _ _ _ h => h) (Or.inl ⟨by rfl, ?_⟩) hHq95 ?_
        rotate_left
        · intro w' hSw
          go_simp
          first | done | with_reducible rfl
        try simp only [Act.put, List.setIfInBounds_toArray, List.set_cons_zero, List.set_cons_succ]
        refine wpAnyH_ready (rs := [7]) (by kernel_rfl) (by simp) ?_
        refine AllReadyH.cons rfl (fun Kq957 hKq957 => ?_) AllReadyH.nil
        go_simp
        generalize hVq957 : World.alloc Vq9 (.cells #[.int .u8 (IntKind.u8.wrap (TL m lv))] 5) = Vq957
        have nq957 : Blk Vq957 Vq9.heap.size 5 #[.int .u8 (IntKind.u8.wrap (TL m lv))] := hVq957 ▸ Blk.new Vq9 5 #[.int .u8 (IntKind.u8.wrap (TL m lv))]
        have rlq957 := hbq9.size
        have hbq957 : Below W.heap.size W Vq957 := hVq957 ▸ hbq9.alloc hbq9.size (.cells #[.int .u8 (IntKind.u8.wrap (TL m lv))] 5)
        have hsq957 : _ ∧ _ ∧ _ := ⟨hHq95.1.alloc (.cells #[.int .u8 (IntKind.u8.wrap (TL m lv))] 5), hHq95.2.1.alloc (.cells #[.int .u8 (IntKind.u8.wrap (TL m lv))] 5), hHq95.2.2.alloc (.cells #[.int .u8 (IntKind.u8.wrap (TL m lv))] 5)⟩
        rw [hVq957] at hsq957
        have rq957 := nq9.alloc (.cells #[.int .u8 (IntKind.u8.wrap (TL m lv))] 5)
        rw [hVq957] at rq957
        clear hVq957
        refine hKq957.out _ _ hsq957 (fun hHq957 => ?_)
        try simp only [Act.put, List.setIfInBounds_toArray, List.set_cons_zero, List.set_cons_succ]
        refine wpAnyH_ready (rs := [8]) (by kernel_rfl) (by simp) ?_
        refine AllReadyH.cons rfl (fun Kq9578 hKq9578 => ?_) AllReadyH.nil
        go_simp
        refine (small_any (k := k) (xs := [IntKind.u8.wrap (TL m lv)]) (n := 1) (c := 1) rfl (by decide) (by decide) (Blk.rd nq957)).mono ?_
        rintro e wq9578 ⟨rfl, hqq9578⟩
        have hbq9578 := hbq957.trans (hqq9578.mono hbq957.size)
        have rq9578 := rq957.below hqq9578
        refine hKq9578.out _ _ ⟨hHq957.1.below hqq9578, hHq957.2.1.below hqq9578, hHq957.2.2.below hqq9578⟩ (fun hHq9578 => ?_)
        try simp only [Act.put, List.setIfInBounds_toArray, List.set_cons_zero, List.set_cons_succ]
        refine wpAnyH_ready (rs := [10]) (by kernel_rfl) (by simp) ?_
        refine AllReadyH.cons rfl (fun Kq957810 hKq957810 => ?_) AllReadyH.nil
        rw [if_pos (by rfl)]
        refine wp_stB 35 (.tmp 10) (.tmp 24) rfl (cmL k [IntKind.u8.wrap (TL m lv)] 0).val 0 rfl rfl rq9578 (by simp [Cm.val, Value.cells]) (by kernel_rfl) (by simp [Cm.val, cmL, cm, Value.cells, Value.oneCell']) ?_
        intro wq957810 Bq957810 hgq957810
        refine hKq957810.out _ _ ⟨hHq9578.1.grown hgq957810 (by intro e; injection e with e; omega), hHq9578.2.1.grown hgq957810 (by intro e; injection e with e; omega), hHq9578.2.2.grown hgq957810 (by intro e; injection e with e; omega)⟩ (fun hHq957810 => ?_)
        try simp only [Act.put, List.setIfInBounds_toArray, List.set_cons_zero, List.set_cons_succ]
        exact ⟨rfl, _, _, Bq957810, bel_grown hbq9578 hgq957810 rlq9, rlq9, rfl⟩
end Go.Proofs.Yteecgdbicokgoaa
