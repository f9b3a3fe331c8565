/- Acts of a lock: few; a row of acts that came in. -/
import Derived.Test.YtgkmeekefinmkaaR2
import Derived.Test.YtgkmeekefinmkaaRow
namespace Go.Proofs.Ytgkmeekefinmkaa
open Go.RowKit Go.ChangeShapes Go.WideShapes
set_option linter.unusedVariables false
set_option linter.unusedSimpArgs false
/-- An act: its bytes too. -/
structure Ac where
  kind : Int
  mode : Int
  res : Int
  left : Int
  A : Option Addr
  n : Nat
  c : Nat
  b : List Int
abbrev Ac.cs (a : Ac) : List Value := [.int .u8 a.kind, .int .u8 a.mode, .int .u8 a.res, .int .i64 a.left, .slice a.A a.n a.c]
abbrev cellsA (l : List Ac) : List Value := flatC Ac.cs l
/-- An act whose bytes lie below B. -/
structure AcIn (w : World) (B : Nat) (a : Ac) : Prop where
  k0 : 0 ≤ a.kind
  k1 : a.kind < 256
  m0 : 0 ≤ a.mode
  m1 : a.mode < 256
  r0 : 0 ≤ a.res
  r1 : a.res < 256
  l0 : -9223372036854775808 ≤ a.left
  l1 : a.left ≤ 9223372036854775807
  bl : a.b.length = a.n
  bc : a.n ≤ a.c
  bm : a.c ≤ maxLen
  bn : a.A = none → a.n = 0 ∧ a.c = 0
  br : Rd w B a.A (u8s a.b)
  bb : by8 a.b
theorem AcIn.below {w w' : World} {B : Nat} {a : Ac} (h : AcIn w B a) (hb : Below B w w') : AcIn w' B a :=
  ⟨h.k0, h.k1, h.m0, h.m1, h.r0, h.r1, h.l0, h.l1, h.bl, h.bc, h.bm, h.bn, h.br.below hb, h.bb⟩
theorem cells39 : Try.prog.cellsOf 39 = 5 := by kernel_rfl
theorem fs39 : ∃ f0 f1 f2 f3 f4 : Field, Try.prog.underlying 39 = some (.struct #[f0, f1, f2, f3, f4]) ∧ (f0.type = 5 ∧ f0.offset = 0) ∧ (f1.type = 5 ∧ f1.offset = 1) ∧ (f2.type = 5 ∧ f2.offset = 2) ∧ (f3.type = 3 ∧ f3.offset = 3) ∧ f4.type = 22 ∧ f4.offset = 4 :=
  ⟨_, _, _, _, _, Try.underlying39, ⟨rfl, rfl⟩, ⟨rfl, rfl⟩, ⟨rfl, rfl⟩, ⟨rfl, rfl⟩, rfl, rfl⟩
theorem cells5 : Try.prog.cellsOf 5 = 1 := by kernel_rfl
theorem cells3 : Try.prog.cellsOf 3 = 1 := by kernel_rfl
theorem cells22 : Try.prog.cellsOf 22 = 1 := by kernel_rfl
section
variable {H : Type} {enc : TypeId × Value → H} {w : World} {base : Nat} {spare : Nat → Bool} {held : Bool}
theorem act_cells {fuel : Nat} {cs : List Value} {x : DataW H × List MemPlace} (h : DataW.trod enc Try.prog w base spare held fuel 39 cs = some x) : ∃ a : Ac, cs = a.cs ∧ AcIn w w.heap.size a := by
  obtain ⟨f0, f1, f2, f3, f4, hu, ⟨t0, o0⟩, ⟨t1, o1⟩, ⟨t2, o2⟩, ⟨t3, o3⟩, t4, o4⟩ := fs39
  obtain ⟨xs, n, -, -, hl, hlen, hf⟩ := DataW.trod_struct hu h
  rw [cells39] at hl
  match cs, hl with
  | [c0, c1, c2, c3, c4], _ =>
    have h0 := hf 0 f0 rfl
    have h1 := hf 1 f1 rfl
    have h2 := hf 2 f2 rfl
    have h3 := hf 3 f3 rfl
    have h4 := hf 4 f4 rfl
    match xs, hlen with
    | [x0, x1, x2, x3, x4], _ =>
      simp only [t0, o0, cells5] at h0
      simp only [t1, o1, cells5] at h1
      simp only [t2, o2, cells5] at h2
      simp only [t3, o3, cells3] at h3
      simp only [t4, o4, cells22] at h4
      obtain ⟨k, e0, -, w0⟩ := DataW.trod_int Try.underlying5 (show DataW.trod enc Try.prog w base spare held n 5 [c0] = some x0 from h0)
      obtain ⟨m, e1, -, w1⟩ := DataW.trod_int Try.underlying5 (show DataW.trod enc Try.prog w base spare held n 5 [c1] = some x1 from h1)
      obtain ⟨r, e2, -, w2⟩ := DataW.trod_int Try.underlying5 (show DataW.trod enc Try.prog w base spare held n 5 [c2] = some x2 from h2)
      obtain ⟨l, e3, -, w3⟩ := DataW.trod_int Try.underlying3 (show DataW.trod enc Try.prog w base spare held n 3 [c3] = some x3 from h3)
      simp only [List.cons.injEq, and_true] at e0 e1 e2 e3
      subst e0 e1 e2 e3
      obtain ⟨A, n', c', b, hcs, g1, g2, g3, g4, g5, g6⟩ := row_ints Try.underlying22 Try.underlying5 (by kernel_rfl) (show DataW.trod enc Try.prog w base spare held n 22 [c4] = some x4 from h4)
      simp only [List.cons.injEq, and_true] at hcs
      subst hcs
      exact ⟨⟨k, m, r, l, A, n', c', b⟩, rfl, (wf_u8 w0).1, (wf_u8 w0).2, (wf_u8 w1).1, (wf_u8 w1).2, (wf_u8 w2).1, (wf_u8 w2).2, (wf_i64 w3).1, (wf_i64 w3).2, g4, g1, g2, g3, g5, fun x hx => wf_u8 (g6 x hx)⟩
/-- A row of acts that came in. -/
theorem open_acts {fuel : Nat} {cs : List Value} {x : DataW H × List MemPlace} (h : DataW.trod enc Try.prog w base spare held fuel 34 cs = some x) :
    ∃ (A : Option Addr) (n c : Nat) (l : List Ac), cs = [.slice A n c] ∧ n ≤ c ∧ c ≤ maxLen ∧ (A = none → n = 0 ∧ c = 0) ∧ l.length = n ∧ (∀ t ∈ l, AcIn w w.heap.size t) ∧ Rd w w.heap.size A (cellsA l) :=
  rowN Ac.cs (AcIn w w.heap.size) 5 (by decide) Try.underlying34 cells39 (fun m cs y hy => act_cells hy) (fun a => rfl) h
end
theorem Rd.new (w : World) (vs : List Value) (t : TypeId) : Rd (w.alloc (.cells vs.toArray t)) (w.heap.size + 1) (some ⟨w.heap.size, 0, none⟩) vs := fun _ =>
  ⟨w.heap.size, 0, rfl, by omega, fun i v hv => by
    rw [World.cell?_alloc_at _ _ _ _ rfl]
    simpa using hv⟩
theorem rdnew2 (w : World) (o : Obj) (vs : List Value) (t : TypeId) : Rd ((w.alloc o).alloc (.cells vs.toArray t)) (w.heap.size + 1 + 1) (some ⟨w.heap.size + 1, 0, none⟩) vs := by
  have := Rd.new (w.alloc o) vs t
  simpa only [World.size_alloc] using this
theorem info39 : (Try.prog.info? 39).map (fun i => (i.zero, i.size, i.bytes)) = some (some (.agg #[.int .u8 0, .int .u8 0, .int .u8 0, .int .i64 0, .slice none 0 0]), 5, 40) := by kernel_rfl
def FewP (w : World) (B0 : Nat) (e : Ending) (w' : World) : Prop := ∃ A c outs, e = .returned (.slice A outs.length c) ∧ outs.length ≤ 60 ∧ Own w' w.heap.size 39 5 A outs.length c (cellsA outs) ∧ (∀ o ∈ outs, AcIn w' B0 o ∧ o.n ≤ 30) ∧ Below w.heap.size w w'
theorem cs_one (a : Ac) : ∀ u ∈ a.cs, u.oneCell' = true := by
  intro u hu
  simp only [Ac.cs, List.mem_cons, List.not_mem_nil, or_false] at hu
  rcases hu with rfl | rfl | rfl | rfl | rfl <;> rfl
/-- An act's bytes, cut. -/
def Ac.cut (a : Ac) : Ac := { a with n := min a.n 30, b := a.b.take 30 }
theorem AcIn.cut {w : World} {B : Nat} {a : Ac} (h : AcIn w B a) : AcIn w B a.cut :=
  ⟨h.k0, h.k1, h.m0, h.m1, h.r0, h.r1, h.l0, h.l1, by show (a.b.take 30).length = min a.n 30; rw [List.length_take, h.bl]; omega, by have := h.bc; show min a.n 30 ≤ a.c; omega, h.bm, fun e => ⟨by have := (h.bn e).1; show min a.n 30 = 0; omega, (h.bn e).2⟩, h.br.take' 30, fun x hx => h.bb x (List.mem_of_mem_take hx)⟩
set_option maxHeartbeats 4000000 in
theorem few_any (A : Option Addr) (n c : Nat) (l : List Ac) (w : World) (B0 : Nat) (hB0 : B0 ≤ w.heap.size) (hx : l.length = n) (hl : n ≤ maxLen) (hr : Rd w w.heap.size A (cellsA l)) (hin : ∀ a ∈ l, AcIn w B0 a) : Calls Try.prog 15 #[.slice A n c] w (FewP w B0) := by
  unfold maxLen at hl
  have HX := Lib.hid hx
  clear hx
  go_enter Try.func15, Try.ntmps15
  go_wp2
  go_loopw [3, 8] (fun v i wr => ∃ (k : Nat) (B : Option Addr) (d : Nat) (outs : List Ac), k ≤ n ∧ i = .int .i64 k ∧ v = .slice B (min k 60) d ∧ outs.length = min k 60 ∧ Own wr w.heap.size 39 5 B (min k 60) d (cellsA outs) ∧ (∀ o ∈ outs, AcIn wr B0 o ∧ o.n ≤ 30) ∧ Below w.heap.size w wr) (fun _ i _ => n - (intOf i).toNat)
  case atStart => exact ⟨0, none, 0, [], Nat.zero_le _, rfl, rfl, rfl, Own.nil _ _ _ _, fun o h => (by cases h), Below.refl _ _⟩
  case round =>
    obtain ⟨k, B, d, outs, hk, rfl, rfl, hol, ho, hof, hb⟩ := hrel
    obtain ⟨m, hm⟩ : ∃ m, min k 60 = m := ⟨_, rfl⟩
    rw [hm] at hol ho
    have hz := hb.size
    have HOL := Lib.hid hol
    have HOF := Lib.hid hof
    have HM := Lib.hid hm
    rw [hm]
    clear hol hof hm
    by_cases hlt : k < n
    · have hlt' : (k : Int) < n := by omega
      obtain ⟨a, ha⟩ : ∃ a, l[k]? = some a := ⟨_, List.getElem?_eq_getElem (by rw [HX.out]; exact hlt)⟩
      have hain := hin _ (List.mem_of_getElem? ha)
      have hcut := (hain.cut).below (hb.mono hB0)
      obtain ⟨b, o, rfl, -, hc⟩ := hr.below hb (by intro h; have h2 := flatC_len Ac.cs 5 l (fun _ _ => rfl); rw [show flatC Ac.cs l = [] from h, HX.out] at h2; simp at h2; omega)
      have hc' : ∀ j u, a.cs[j]? = some u → wr.cell? ⟨b, o + (k * 5 + j), none⟩ = some u := fun j u hu => hc _ _ (flatC_at Ac.cs 5 l (fun _ _ => rfl) k a ha j u hu)
      have q0 := hc' 0 _ rfl
      have q1 := hc' 1 _ rfl
      have q2 := hc' 2 _ rfl
      have q3 := hc' 3 _ rfl
      have q4 := hc' 4 _ rfl
      rw [Nat.add_zero] at q0
      rw [← Nat.add_assoc] at q1 q2 q3 q4
      have a1 := hain.bl
      have a2 := hain.bc
      have a3 := hain.bm
      have a4 := hain.bn
      unfold maxLen at a3
      clear hc hc' ha hain
      by_cases h60 : k < 60
      · have h60' : (k : Int) < 60 := by omega
        obtain rfl : m = k := by have := HM.out; omega
        obtain ⟨a', ha'⟩ : ∃ a', a.cut = a' := ⟨_, rfl⟩
        rw [ha'] at hcut
        have hcut' := Lib.hid hcut
        have HA' := Lib.hid ha'
        clear hcut ha'
        obtain ⟨ak, am, ar, al, aA, an, ac, ab⟩ := a
        dsimp only at q0 q1 q2 q3 q4 a1 a2 a3 a4
        have hcs : (aA = none ∧ an = 0 ∧ ac = 0) ∨ (∃ ad, aA = some ad) ∧ an ≤ 30 ∨ (∃ ad, aA = some ad) ∧ 30 < an := by
          cases aA with
          | none => have := a4 rfl; exact .inl ⟨rfl, this.1, this.2⟩
          | some ad => rcases Nat.lt_or_ge 30 an with h | h
                       · exact .inr (.inr ⟨⟨ad, rfl⟩, h⟩)
                       · exact .inr (.inl ⟨⟨ad, rfl⟩, h⟩)
        have hN : Hid (∀ N, min an 30 = N → a'.cs = [.int .u8 ak, .int .u8 am, .int .u8 ar, .int .i64 al, .slice aA N ac]) := Lib.hid fun N hN => by subst hN; rw [← HA'.out]; rfl
        clear a4
        rcases hcs with ⟨rfl, rfl, rfl⟩ | ⟨⟨ad, rfl⟩, h30⟩ | ⟨⟨ad, rfl⟩, h30⟩
        case' inl =>
          have hE := Lib.hid (hN.out 0 rfl)
        case' inr.inl =>
          have e2 : min (an : Int) 30 = (an : Int) := by omega
          have h30' : (an : Int) ≤ 30 := by omega
          have e4 : (an : Int) ≤ ac := by omega
          have hE := Lib.hid (hN.out an (by omega))
        case' inr.inr =>
          have e2 : min (an : Int) 30 = 30 := by omega
          have e3 : max (30 : Int) 0 = 30 := by omega
          have h30' : (30 : Int) ≤ an := by omega
          have e4 : (30 : Int) ≤ ac := by omega
          have hE := Lib.hid (hN.out 30 (by omega))
        all_goals
          clear hN
          go_wp2_with (at_builtin; (refine wpList_app _ rfl (.tmp 23) (.tmp 25) 34 rfl w.heap.size 39 (.agg #[.int .u8 0, .int .u8 0, .int .u8 0, .int .i64 0, .slice none 0 0]) 5 40 Try.underlying34 info39 rfl (by decide) B m d _ rfl ((ho.alloc _).alloc _) _ _ 1 1 a'.cs rfl (by rw [hE.out]; rfl) (by rw [hE.out]; exact rdnew2 _ _ [.int .u8 ak, .int .u8 am, .int .u8 ar, .int .i64 al, _] 39) (cs_one a') (by unfold maxLen; omega) (by omega) (by simp; omega) ?_); intro X' e' w' ho3 hg hbk)
          go_roundw
          case rel =>
            have hbel : Below w.heap.size w w' := bel_app ((hb.alloc hz _).alloc (by simp; omega) _) ((ho.alloc _).alloc _) (Nat.le_refl _) hg
            have hkeep : ∀ o, AcIn wr B0 o → AcIn w' B0 o := fun o' ho' => ⟨ho'.k0, ho'.k1, ho'.m0, ho'.m1, ho'.r0, ho'.r1, ho'.l0, ho'.l1, ho'.bl, ho'.bc, ho'.bm, ho'.bn, ho'.br.keep fun p hp => ((hbel.cell (by omega)).trans (hb.cell (by omega)).symm), ho'.bb⟩
            have hm1 : min (m + 1) 60 = m + 1 := by omega
            refine ⟨m + 1, X', e', outs ++ [a'], by omega, by go_num, by rw [hm1], by rw [hm1, List.length_append, HOL.out]; rfl, ?_, fun o' ho' => ?_, hbel⟩
            · rw [hm1, show cellsA (outs ++ [a']) = cellsA outs ++ a'.cs from by rw [show cellsA (outs ++ [a']) = flatC Ac.cs (outs ++ [a']) from rfl, flatC_app]; simp [flatC]]
              exact ho3
            · rcases List.mem_append.1 ho' with h | h
              · exact ⟨hkeep _ (HOF.out _ h).1, (HOF.out _ h).2⟩
              · simp at h
                subst h
                refine ⟨hkeep _ hcut'.out, ?_⟩
                rw [← HA'.out]
                exact Nat.min_le_right _ _
          case measure => simp [intOf]; omega
      · have h60' : (60 : Int) ≤ k := by omega
        obtain ⟨ak, am, ar, al, aA, an, ac, ab⟩ := a
        dsimp only at q0 q1 q2 q3 q4
        clear hcut a1 a2 a3 a4
        go_wp2_with fail
        go_roundw
        case rel =>
          have hm1 : min (k + 1) 60 = m := by have := HM.out; omega
          refine ⟨k + 1, B, d, outs, by omega, by go_num, by rw [hm1], by rw [hm1, HOL.out], by rw [hm1]; exact ho.alloc _, fun o' ho' => ⟨?_, (HOF.out _ ho').2⟩, hb.alloc hz _⟩
          have h1 := (HOF.out _ ho').1
          exact ⟨h1.k0, h1.k1, h1.m0, h1.m1, h1.r0, h1.r1, h1.l0, h1.l1, h1.bl, h1.bc, h1.bm, h1.bn, h1.br.alloc (by omega) _, h1.bb⟩
        case measure => simp [intOf]; omega
    · obtain rfl : k = n := by omega
      go_wp2_with fail
      go_ret
      refine ⟨B, d, outs, by rw [HOL.out]; rfl, by have := HOL.out; have := HM.out; omega, by rw [HOL.out]; exact ho, HOF.out, hb⟩
end Go.Proofs.Ytgkmeekefinmkaa
