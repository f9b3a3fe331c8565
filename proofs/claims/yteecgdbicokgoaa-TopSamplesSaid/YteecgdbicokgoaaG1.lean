/- Commands: their shape, and whether one fits it. -/
import Derived.Test.YteecgdbicokgoaaNP
import Derived.Test.YteecgdbicokgoaaCpy
import Derived.Test.YteecgdbicokgoaaConf
import Derived.Test.YteecgdbicokgoaaChain
namespace Go.Proofs.Yteecgdbicokgoaa
open Go.RowKit
set_option linter.unusedVariables false
set_option linter.unusedSimpArgs false
set_option maxRecDepth 100000
/-- A command; its bytes are a slice. -/
structure Cm where
  code : Int
  a0 : Int
  a1 : Int
  a2 : Int
  a3 : Int
  a4 : Int
  w : Int
  bA : Option Addr
  bn : Nat
  bc : Nat
abbrev Cm.cs (c : Cm) : List Value := [.int .u8 c.code, .int .u8 c.a0, .int .u8 c.a1, .int .u8 c.a2, .int .u8 c.a3, .int .u8 c.a4, .int .u32 c.w, .slice c.bA c.bn c.bc]
abbrev Cm.val (c : Cm) : Value := .agg #[.int .u8 c.code, .int .u8 c.a0, .int .u8 c.a1, .int .u8 c.a2, .int .u8 c.a3, .int .u8 c.a4, .int .u32 c.w, .slice c.bA c.bn c.bc]
structure Cm.wf (c : Cm) : Prop where
  k0 : 0 ≤ c.code
  k1 : c.code < 256
  h0 : 0 ≤ c.a0 ∧ c.a0 < 256
  h1 : 0 ≤ c.a1 ∧ c.a1 < 256
  h2 : 0 ≤ c.a2 ∧ c.a2 < 256
  h3 : 0 ≤ c.a3 ∧ c.a3 < 256
  h4 : 0 ≤ c.a4 ∧ c.a4 < 256
  w0 : 0 ≤ c.w
  w1 : c.w < 4294967296
  b1 : c.bn ≤ c.bc
  b2 : c.bc ≤ maxLen
/-- How many small numbers, whether a great one, how many bytes at most, whether there is such a command. -/
def shp (k : Int) : Nat × Bool × Nat × Bool := if k = 2 ∨ k = 3 ∨ k = 4 ∨ k = 18 then (0, false, 0, true) else if k = 1 ∨ k = 6 ∨ k = 19 ∨ k = 26 then (1, false, 0, true) else if k = 16 ∨ k = 20 ∨ k = 25 ∨ k = 12 then (2, false, 0, true) else if k = 15 ∨ k = 17 ∨ k = 21 ∨ k = 22 then (3, false, 0, true) else if k = 24 then (5, false, 0, true) else if k = 5 ∨ k = 11 ∨ k = 14 then (1, true, 0, true) else if k = 7 ∨ k = 23 then (2, true, 0, true) else if k = 8 ∨ k = 9 ∨ k = 13 then (1, false, 6, true) else if k = 10 then (0, false, 7, true) else (0, false, 0, false)
theorem shp_le (k : Int) : (shp k).1 ≤ 5 ∧ (shp k).2.2.1 ≤ 7 := by
  unfold shp
  split
  · simp
  split
  · simp
  split
  · simp
  split
  · simp
  split
  · simp
  split
  · simp
  split
  · simp
  split
  · simp
  split
  · simp
  · simp
theorem results_tmp4 {fn : Func} {t u v x : Tmp} (h : fn.results = #[.tmp t, .tmp u, .tmp v, .tmp x]) (tmps : Array Value) (P : Program) (w : World) :
    (results fn tmps).run P w = .ok (.tuple #[tmps.getD t undef, tmps.getD u undef, tmps.getD v undef, tmps.getD x undef]) w := by
  simp [results, h]
abbrev shpV (k : Int) : Value := .tuple #[.int .i64 (shp k).1, .bool (shp k).2.1, .int .i64 (shp k).2.2.1, .bool (shp k).2.2.2]
set_option maxHeartbeats 4000000 in
theorem shape_any (k : Int) (h0 : 0 ≤ k) (h1 : k < 256) (w : World) : Calls Try.prog 74 #[.int .u8 k] w fun e w' => e = .returned (shpV k) ∧ w = w' := by
  by_cases h : k = 0 ∨ 27 ≤ k
  · have e : shp k = (0, false, 0, false) := by
      unfold shp
      rw [if_neg (by omega)]
      rw [if_neg (by omega)]
      rw [if_neg (by omega)]
      rw [if_neg (by omega)]
      rw [if_neg (by omega)]
      rw [if_neg (by omega)]
      rw [if_neg (by omega)]
      rw [if_neg (by omega)]
      rw [if_neg (by omega)]
    unfold shpV
    rw [e]
    have k1 : (k == 1) = false := beq_eq_false_iff_ne.2 (by omega)
    have k2 : (k == 2) = false := beq_eq_false_iff_ne.2 (by omega)
    have k3 : (k == 3) = false := beq_eq_false_iff_ne.2 (by omega)
    have k4 : (k == 4) = false := beq_eq_false_iff_ne.2 (by omega)
    have k5 : (k == 5) = false := beq_eq_false_iff_ne.2 (by omega)
    have k6 : (k == 6) = false := beq_eq_false_iff_ne.2 (by omega)
    have k7 : (k == 7) = false := beq_eq_false_iff_ne.2 (by omega)
    have k8 : (k == 8) = false := beq_eq_false_iff_ne.2 (by omega)
    have k9 : (k == 9) = false := beq_eq_false_iff_ne.2 (by omega)
    have k10 : (k == 10) = false := beq_eq_false_iff_ne.2 (by omega)
    have k11 : (k == 11) = false := beq_eq_false_iff_ne.2 (by omega)
    have k12 : (k == 12) = false := beq_eq_false_iff_ne.2 (by omega)
    have k13 : (k == 13) = false := beq_eq_false_iff_ne.2 (by omega)
    have k14 : (k == 14) = false := beq_eq_false_iff_ne.2 (by omega)
    have k15 : (k == 15) = false := beq_eq_false_iff_ne.2 (by omega)
    have k16 : (k == 16) = false := beq_eq_false_iff_ne.2 (by omega)
    have k17 : (k == 17) = false := beq_eq_false_iff_ne.2 (by omega)
    have k18 : (k == 18) = false := beq_eq_false_iff_ne.2 (by omega)
    have k19 : (k == 19) = false := beq_eq_false_iff_ne.2 (by omega)
    have k20 : (k == 20) = false := beq_eq_false_iff_ne.2 (by omega)
    have k21 : (k == 21) = false := beq_eq_false_iff_ne.2 (by omega)
    have k22 : (k == 22) = false := beq_eq_false_iff_ne.2 (by omega)
    have k23 : (k == 23) = false := beq_eq_false_iff_ne.2 (by omega)
    have k24 : (k == 24) = false := beq_eq_false_iff_ne.2 (by omega)
    have k25 : (k == 25) = false := beq_eq_false_iff_ne.2 (by omega)
    have k26 : (k == 26) = false := beq_eq_false_iff_ne.2 (by omega)
    clear e h
    go_enter Try.func74, Try.ntmps74
    go_wp2
    (try simp only [Exit.inBlock, Exit.then])
    refine bodyPost_ret (results_tmp4 Try.results74 _ _ _) rfl ?_
    exact ⟨rfl, rfl⟩
  · have : k = 1 ∨ k = 2 ∨ k = 3 ∨ k = 4 ∨ k = 5 ∨ k = 6 ∨ k = 7 ∨ k = 8 ∨ k = 9 ∨ k = 10 ∨ k = 11 ∨ k = 12 ∨ k = 13 ∨ k = 14 ∨ k = 15 ∨ k = 16 ∨ k = 17 ∨ k = 18 ∨ k = 19 ∨ k = 20 ∨ k = 21 ∨ k = 22 ∨ k = 23 ∨ k = 24 ∨ k = 25 ∨ k = 26 := by omega
    rcases this with rfl | rfl | rfl | rfl | rfl | rfl | rfl | rfl | rfl | rfl | rfl | rfl | rfl | rfl | rfl | rfl | rfl | rfl | rfl | rfl | rfl | rfl | rfl | rfl | rfl | rfl
    all_goals
      go_enter Try.func74, Try.ntmps74
      go_wp2
      (try simp only [Exit.inBlock, Exit.then])
      refine bodyPost_ret (results_tmp4 Try.results74 _ _ _) rfl ?_
      exact ⟨rfl, rfl⟩
def needN (c : Cm) (b : Nat) : Int := if b = 6 then (if 6 ≤ c.a0 then 6 else c.a0) else b
theorem needs_any (c : Cm) (b : Nat) (w : World) (hc : c.wf) : Calls Try.prog 104 #[c.val, .int .i64 b] w fun e w' => e = .returned (.int .i64 (needN c b)) ∧ Below w.heap.size w w' := by
  have hb := bl1 w (.cells c.cs.toArray 35)
  have hb0 := hc.h0.1
  have hb1 := hc.h0.2
  by_cases h6 : b = 6
  · subst h6
    by_cases ha : 6 ≤ c.a0
    · have e : needN c 6 = 6 := by unfold needN; rw [if_pos rfl, if_pos ha]
      rw [e]
      have ha' : ¬ (c.a0 < 6) := by omega
      go_enter Try.func104, Try.ntmps104
      go_wp2_with fail
      go_ret
      exact ⟨rfl, hb⟩
    · have e : needN c 6 = c.a0 := by unfold needN; rw [if_pos rfl, if_neg ha]
      rw [e]
      have ha' : c.a0 < 6 := by omega
      have ha2 : c.a0 ≤ 6 := by omega
      go_enter Try.func104, Try.ntmps104
      go_wp2_with fail
      go_ret
      exact ⟨rfl, hb⟩
  · have e : needN c b = b := by unfold needN; rw [if_neg h6]
    have h6' : ((b : Int) == 6) = false := beq_eq_false_iff_ne.2 (by omega)
    rw [e]
    go_enter Try.func104, Try.ntmps104
    go_wp2_with fail
    go_ret
    exact ⟨rfl, hb⟩
/-- The small numbers of which it has n, then 0. -/
def cutA (c : Cm) (s j : Nat) (a : Int) : Int := if j < s then a else 0
def zerosA (c : Cm) (s : Nat) : Bool := c.a0 == cutA c s 0 c.a0 && c.a1 == cutA c s 1 c.a1 && c.a2 == cutA c s 2 c.a2 && c.a3 == cutA c s 3 c.a3 && c.a4 == cutA c s 4 c.a4
def fitsC (c : Cm) : Bool := (shp c.code).2.2.2 && zerosA c (shp c.code).1 && ((shp c.code).2.1 || c.w == 0) && ((c.bn : Int) == needN c (shp c.code).2.2.1)
abbrev nz (c : Cm) (s : Nat) : Array Value := #[.int .u8 (cutA c s 0 c.a0), .int .u8 (cutA c s 1 c.a1), .int .u8 (cutA c s 2 c.a2), .int .u8 (cutA c s 3 c.a3), .int .u8 (cutA c s 4 c.a4)]
theorem nz_zero (c : Cm) : nz c 0 = #[.int .u8 0, .int .u8 0, .int .u8 0, .int .u8 0, .int .u8 0] := rfl
/-- Two arrays of five numbers, '=='. -/
theorem run_equalIn_5 {P : Program} {t e : TypeId} {k k' : IntKind} (ht : P.underlying t = some (.array 5 e)) (he : P.underlying e = some (.int k')) (hs : ∀ w, (sizeOf e).run P w = .ok 1 w) (d : Nat)
    (a0 a1 a2 a3 a4 b0 b1 b2 b3 b4 : Int) (w : World) :
    (Op.equalIn (d + 2) t (.agg #[.int k a0, .int k a1, .int k a2, .int k a3, .int k a4]) (.agg #[.int k b0, .int k b1, .int k b2, .int k b3, .int k b4])).run P w =
      .ok (a0 == b0 && a1 == b1 && a2 == b2 && a3 == b3 && a4 == b4) w := by
  have hp : ∀ (c0 c1 c2 c3 c4 : Int) (i : Nat), i < 5 → (part e #[.int k c0, .int k c1, .int k c2, .int k c3, .int k c4] (i * 1)).run P w = .ok (.int k ([c0, c1, c2, c3, c4].getD i 0)) w := by
    intro c0 c1 c2 c3 c4 i hi
    have hq : ∀ (l : List Int), i < l.length → (part e (l.map (Value.int k)).toArray (i * 1)).run P w = .ok (.int k (l.getD i 0)) w := fun l hl => by
      rw [Nat.mul_one]
      simp [part, isAgg, run_underlying he, List.getElem?_eq_getElem hl]
    exact hq [c0, c1, c2, c3, c4] hi
  rw [run_equalIn_ints ht hs (d + 1) (fun a b w => run_equalIn_int w d e k k' a b he) _ _ (fun i => [a0, a1, a2, a3, a4].getD i 0) (fun i => [b0, b1, b2, b3, b4].getD i 0) w (hp _ _ _ _ _) (hp _ _ _ _ _)]
  simp [List.range_succ, Bool.and_assoc]
theorem eq29 (a0 a1 a2 a3 a4 b0 b1 b2 b3 b4 : Int) (w : World) : (Op.equalIn 10000 32 (.agg #[.int .u8 a0, .int .u8 a1, .int .u8 a2, .int .u8 a3, .int .u8 a4]) (.agg #[.int .u8 b0, .int .u8 b1, .int .u8 b2, .int .u8 b3, .int .u8 b4])).run Try.prog w =
      .ok (a0 == b0 && a1 == b1 && a2 == b2 && a3 == b3 && a4 == b4) w :=
  run_equalIn_5 Try.underlying32 Try.underlying5 (fun w => by kernel_rfl) 9998 _ _ _ _ _ _ _ _ _ _ w
/-- The first bytes over the five. -/
theorem copy5 (c : Cm) (s : Nat) (hs : s ≤ 5) : ((#[.int .u8 0, .int .u8 0, .int .u8 0, .int .u8 0, .int .u8 0] : Array Value).toList.take 0 ++ ([.int .u8 c.a0, .int .u8 c.a1, .int .u8 c.a2, .int .u8 c.a3, .int .u8 c.a4] : List Value).take s ++ (#[.int .u8 0, .int .u8 0, .int .u8 0, .int .u8 0, .int .u8 0] : Array Value).toList.drop (0 + (([.int .u8 c.a0, .int .u8 c.a1, .int .u8 c.a2, .int .u8 c.a3, .int .u8 c.a4] : List Value).take s).length)).toArray = nz c s := by
  rcases (by omega : s = 0 ∨ s = 1 ∨ s = 2 ∨ s = 3 ∨ s = 4 ∨ s = 5) with rfl | rfl | rfl | rfl | rfl | rfl <;> rfl
theorem run_copy5 (w : World) (c : Cm) (s : Nat) (hs : s ≤ 5) (gn gc k1 k2 : Nat) (h0 : Blk w gn 32 #[.int .u8 0, .int .u8 0, .int .u8 0, .int .u8 0, .int .u8 0]) (hc : ∀ i, w.cell? ⟨gc, i, none⟩ = c.cs.toArray[i]?) :
    ∃ w', (Builtin.copy_ #[22, 22] 3 #[.slice (some ⟨gn, 0, none⟩) s k1, .slice (some ⟨gc, 1, none⟩) s k2]).run Try.prog w = .ok (.int .i64 s) w' ∧ Blk w' gn 32 (nz c s) ∧ w.grownBy w' (some gn) := by
  have hadd : ∀ j, (⟨gc, 1, none⟩ : Addr).add j = ⟨gc, 1 + j, none⟩ := fun j => by unfold Addr.add; split <;> simp_all
  have hr := run_copyN (P := Try.prog) w 22 22 3 5 gn 0 s k1 ⟨gc, 1, none⟩ s k2 #[.int .u8 0, .int .u8 0, .int .u8 0, .int .u8 0, .int .u8 0] 32 (([.int .u8 c.a0, .int .u8 c.a1, .int .u8 c.a2, .int .u8 c.a3, .int .u8 c.a4] : List Value).take s) 1 s Try.underlying22 (by kernel_rfl) (by simp) h0
    (by rw [List.length_take]; simp; omega) (fun j v hj => by
      rw [hadd, hc]
      rw [List.getElem?_take] at hj
      split at hj
      · rcases (by omega : j = 0 ∨ j = 1 ∨ j = 2 ∨ j = 3 ∨ j = 4) with rfl | rfl | rfl | rfl | rfl <;> simpa using hj
      · cases hj) (by rw [List.length_take]; simp; omega) (fun v hv => by
      have := List.mem_of_mem_take hv
      simp only [List.mem_cons, List.not_mem_nil, or_false] at this
      rcases this with rfl | rfl | rfl | rfl | rfl <;> rfl)
  rw [copy5 c s hs] at hr
  refine ⟨_, by rw [hr]; simp [goInt], setRow_heap w gn _ _ _ _ h0, ⟨rfl, rfl, rfl, by simp [World.setRow], fun k _ hk => setRow_other w gn k _ (fun e => hk (by rw [e]))⟩⟩
theorem wp_cp {P : Program} {o : Oper} {a : Act} {w : World} {K : Act → World → Prop} {Q : Exit → Act → World → Prop} (d s : Operand) (t t' : TypeId)
    (ho : o.op = .call { callee := .builtin .copy, args := #[d, s], argTypes := #[t, t'] }) (v u : Value) (hd : a.eval d = v) (hs : a.eval s = u) {v' : Value} {w' : World}
    (hr : (Builtin.copy_ #[t, t'] o.type #[v, u]).run P w = .ok v' w') (h : K (a.put o.dst v') w') : o.wp P a w K Q := by
  unfold Oper.wp execOp
  simp only [ho, resolve, invoke, builtin, Sem.run_bind, Sem.run_pure, Result.andThen_ok, List.map_toArray, List.map_cons, List.map_nil, hd, hs, hr]
  exact h
set_option maxHeartbeats 4000000 in
theorem fits_any (c : Cm) (w : World) (hc : c.wf) : Calls Try.prog 73 #[c.val] w fun e w' => e = .returned (.bool (fitsC c)) ∧ Below w.heap.size w w' := by
  have SH := Lib.hid (fun w => shape_any c.code hc.k0 hc.k1 w)
  have hle := shp_le c.code
  have HF : Hid (∀ s g b ok, shp c.code = (s, g, b, ok) → fitsC c = (ok && zerosA c s && (g || c.w == 0) && ((c.bn : Int) == needN c b))) := Lib.hid fun s g b ok h => by unfold fitsC; rw [h]
  obtain ⟨⟨s, gr, b, ok⟩, hS⟩ : ∃ z, shp c.code = z := ⟨_, rfl⟩
  rw [hS] at hle
  have HF2 := Lib.hid (HF.out s gr b ok hS)
  have SH : Hid (∀ w : World, Calls Try.prog 74 #[.int .u8 c.code] w fun e w' => e = .returned (.tuple #[.int .i64 s, .bool gr, .int .i64 b, .bool ok]) ∧ w = w') := Lib.hid fun w => by have := SH.out w; unfold shpV at this; rw [hS] at this; exact this
  have hs5 : s ≤ 5 := hle.1
  have hsI : (s : Int) ≤ 5 := by omega
  have NE := Lib.hid (fun w => needs_any c b w hc)
  obtain ⟨ne, hne⟩ : ∃ ne, needN c b = ne := ⟨_, rfl⟩
  have HZ : Hid (zerosA c s = (c.a0 == cutA c s 0 c.a0 && c.a1 == cutA c s 1 c.a1 && c.a2 == cutA c s 2 c.a2 && c.a3 == cutA c s 3 c.a3 && c.a4 == cutA c s 4 c.a4)) := Lib.hid rfl
  obtain ⟨zz, hzz⟩ : ∃ zz, zerosA c s = zz := ⟨_, rfl⟩
  rw [hne] at NE HF2
  rw [hzz] at HF2 HZ
  have heq : ∀ w, (Op.equalIn 10000 32 (.agg #[.int .u8 c.a0, .int .u8 c.a1, .int .u8 c.a2, .int .u8 c.a3, .int .u8 c.a4]) (.agg #[.int .u8 (cutA c s 0 c.a0), .int .u8 (cutA c s 1 c.a1), .int .u8 (cutA c s 2 c.a2), .int .u8 (cutA c s 3 c.a3), .int .u8 (cutA c s 4 c.a4)])).run Try.prog w = .ok zz w := fun w => by rw [eq29, HZ.out]
  obtain ⟨z0, hz0⟩ : ∃ z, cutA c s 0 c.a0 = z := ⟨_, rfl⟩
  obtain ⟨z1, hz1⟩ : ∃ z, cutA c s 1 c.a1 = z := ⟨_, rfl⟩
  obtain ⟨z2, hz2⟩ : ∃ z, cutA c s 2 c.a2 = z := ⟨_, rfl⟩
  obtain ⟨z3, hz3⟩ : ∃ z, cutA c s 3 c.a3 = z := ⟨_, rfl⟩
  obtain ⟨z4, hz4⟩ : ∃ z, cutA c s 4 c.a4 = z := ⟨_, rfl⟩
  have CP := Lib.hid (fun w gn gc k1 k2 h0 h1 => run_copy5 w c s hs5 gn gc k1 k2 h0 h1)
  unfold nz at CP
  rw [hz0, hz1, hz2, hz3, hz4] at heq CP
  clear hne hzz HF hS hle HZ hz0 hz1 hz2 hz3 hz4
  go_enter Try.func73, Try.ntmps73
  go_upto_region 1 with fail
  refine wp_named fun W hW => ?_
  obtain ⟨BC, hbW⟩ := blk1 (c1 := c.cs.toArray) hW
  clear hW
  have bc0 := BC.cell
  go_wp2_with fail
  refine (SH.out _).mono ?_
  rintro e w' ⟨rfl, rfl⟩
  go_upto_region 3 with fail
  refine wp_named fun W2 hW2 => ?_
  obtain ⟨BN, hbW2⟩ := blk1 (c1 := #[.int .u8 0, .int .u8 0, .int .u8 0, .int .u8 0, .int .u8 0]) hW2
  have BC2 := BC.below hbW2
  have hb2 := hbW.trans (hbW2.mono hbW.size)
  have hgl := BC.lt
  obtain ⟨gn, hgn⟩ : ∃ gn, W.heap.size = gn := ⟨_, rfl⟩
  rw [hgn] at BN hgl ⊢
  have hwg : w.heap.size ≤ gn := by rw [← hgn]; exact hbW.size
  clear hW2 bc0 BC hbW2 hgn hbW
  have HRR : ∀ j w', (fun j w' => Below w.heap.size w w' ∧ Blk w' w.heap.size 35 c.cs.toArray ∧ Blk w' gn 32 (if j = 0 then #[.int .u8 0, .int .u8 0, .int .u8 0, .int .u8 0, .int .u8 0] else #[.int .u8 z0, .int .u8 z1, .int .u8 z2, .int .u8 z3, .int .u8 z4])) j w' → ∀ i, w'.cell? ⟨w.heap.size, i, none⟩ = c.cs.toArray[i]? := fun j w' h => h.2.1.cell
  refine wp_region_s [5] (fun j w' => Below w.heap.size w w' ∧ Blk w' w.heap.size 35 c.cs.toArray ∧ Blk w' gn 32 (if j = 0 then #[.int .u8 0, .int .u8 0, .int .u8 0, .int .u8 0, .int .u8 0] else #[.int .u8 z0, .int .u8 z1, .int .u8 z2, .int .u8 z3, .int .u8 z4])) (by kernel_rfl) (by kernel_rfl) ⟨hb2.drew, BC2.drew, BN.drew⟩ ?_
  first
    | (refine wpS_skip (by rfl) (by rfl) ?_; try simp only [Act.put, List.setIfInBounds_toArray, List.set_cons_zero, List.set_cons_succ, Nat.reduceAdd])
    | (refine wpS_val (v := ?_) HRR (by rfl) (by rfl) ?_ ?_; rotate_left; · (intro w' hS; go_simp; first | done | with_reducible rfl)
       try simp only [Act.put, List.setIfInBounds_toArray, List.set_cons_zero, List.set_cons_succ, Nat.reduceAdd])
  first
    | (refine wpS_skip (by rfl) (by rfl) ?_; try simp only [Act.put, List.setIfInBounds_toArray, List.set_cons_zero, List.set_cons_succ, Nat.reduceAdd])
    | (refine wpS_val (v := ?_) HRR (by rfl) (by rfl) ?_ ?_; rotate_left; · (intro w' hS; go_simp; first | done | with_reducible rfl)
       try simp only [Act.put, List.setIfInBounds_toArray, List.set_cons_zero, List.set_cons_succ, Nat.reduceAdd])
  first
    | (refine wpS_skip (by rfl) (by rfl) ?_; try simp only [Act.put, List.setIfInBounds_toArray, List.set_cons_zero, List.set_cons_succ, Nat.reduceAdd])
    | (refine wpS_val (v := ?_) HRR (by rfl) (by rfl) ?_ ?_; rotate_left; · (intro w' hS; go_simp; first | done | with_reducible rfl)
       try simp only [Act.put, List.setIfInBounds_toArray, List.set_cons_zero, List.set_cons_succ, Nat.reduceAdd])
  first
    | (refine wpS_skip (by rfl) (by rfl) ?_; try simp only [Act.put, List.setIfInBounds_toArray, List.set_cons_zero, List.set_cons_succ, Nat.reduceAdd])
    | (refine wpS_val (v := ?_) HRR (by rfl) (by rfl) ?_ ?_; rotate_left; · (intro w' hS; go_simp; first | done | with_reducible rfl)
       try simp only [Act.put, List.setIfInBounds_toArray, List.set_cons_zero, List.set_cons_succ, Nat.reduceAdd])
  first
    | (refine wpS_skip (by rfl) (by rfl) ?_; try simp only [Act.put, List.setIfInBounds_toArray, List.set_cons_zero, List.set_cons_succ, Nat.reduceAdd])
    | (refine wpS_val (v := ?_) HRR (by rfl) (by rfl) ?_ ?_; rotate_left; · (intro w' hS; go_simp; first | done | with_reducible rfl)
       try simp only [Act.put, List.setIfInBounds_toArray, List.set_cons_zero, List.set_cons_succ, Nat.reduceAdd])
  refine wpS_step (v := .int .i64 s) 0 (by kernel_rfl) rfl (by intro p hp; omega) (of_decide_eq_true (by kernel_rfl)) (fun w' hS => .inl ⟨by rfl, ?_⟩) (fun h => by cases h) ?_
  · have hS' : Below w.heap.size w w' ∧ Blk w' w.heap.size 35 c.cs.toArray ∧ Blk w' gn 32 #[.int .u8 0, .int .u8 0, .int .u8 0, .int .u8 0, .int .u8 0] := hS
    obtain ⟨p1, p2, p3⟩ := hS'
    obtain ⟨w2, q1, q2, q3⟩ := CP.out w' gn w.heap.size 5 5 p3 p2.cell
    exact wp_cp (.tmp 17) (.tmp 20) 22 22 rfl _ _ rfl rfl q1 ⟨rfl, bel_grown p1 q3 hwg, p2.grown q3 (by simp; omega), q2⟩
  try simp only [Act.put, List.setIfInBounds_toArray, List.set_cons_zero, List.set_cons_succ, Nat.reduceAdd]
  refine wpS_done (by kernel_rfl) (fun w8 hS => ?_)
  have hS : Below w.heap.size w w8 ∧ Blk w8 w.heap.size 35 c.cs.toArray ∧ Blk w8 gn 32 #[.int .u8 z0, .int .u8 z1, .int .u8 z2, .int .u8 z3, .int .u8 z4] := hS
  obtain ⟨p1, p2, p3⟩ := hS
  have RC := p2.rule
  have RN := p3.rule
  have FIN : Hid (∀ w' v, Below w8.heap.size w8 w' → v = (ok && zz && (gr || c.w == 0) && ((c.bn : Int) == ne)) → Ending.returned (.bool v) = .returned (.bool (fitsC c)) ∧ Below w.heap.size w w') := Lib.hid fun w' v h1 h2 => ⟨by rw [h2, HF2.out], p1.trans (h1.mono p1.size)⟩
  clear HRR BC2 BN hb2 CP p1 p2 p3 HF2
  go_wp2_with fail
  cases ok
  · refine wp_region_c (fun w' => Below w8.heap.size w8 w') (by kernel_rfl) (by kernel_rfl) ((Below.refl _ _).drew) ?_
    repeat (first
      | (refine wpL_skip (by rfl) ?_; try simp only [Act.put, List.setIfInBounds_toArray, List.set_cons_zero, List.set_cons_succ, Nat.reduceAdd])
      | (refine wpL_val (v := ?_) (by rfl) ?_ ?_; rotate_left; · (intro w' hS; go_simp; first | done | with_reducible rfl)
         try simp only [Act.put, List.setIfInBounds_toArray, List.set_cons_zero, List.set_cons_succ, Nat.reduceAdd])
      | (refine wpL_call (v := ?_) (f := ?_) (args := ?_) (by rfl) ?_ ?_ ?_; rotate_left 3
         · (intro w' hS; go_simp; first | done | (refine ⟨?_, ?_⟩ <;> with_reducible rfl) | with_reducible rfl)
         · (intro w' hS; first
             | ((with_reducible refine (NE.out _).mono ?_); rintro e w2 ⟨rfl, hb⟩; refine ⟨?_, bel2 hS hb⟩; with_reducible rfl))
         try simp only [Act.put, List.setIfInBounds_toArray, List.set_cons_zero, List.set_cons_succ, Nat.reduceAdd]))
    refine wpL_done (fun w9 hS => ?_)
    go_wp2_with fail
    go_ret
    exact FIN.out w9 _ hS (by simp)
  · cases zz
    · refine wp_region_c (fun w' => Below w8.heap.size w8 w') (by kernel_rfl) (by kernel_rfl) ((Below.refl _ _).drew) ?_
      repeat (first
        | (refine wpL_skip (by rfl) ?_; try simp only [Act.put, List.setIfInBounds_toArray, List.set_cons_zero, List.set_cons_succ, Nat.reduceAdd])
        | (refine wpL_val (v := ?_) (by rfl) ?_ ?_; rotate_left; · (intro w' hS; go_simp; first | done | with_reducible rfl)
           try simp only [Act.put, List.setIfInBounds_toArray, List.set_cons_zero, List.set_cons_succ, Nat.reduceAdd])
        | (refine wpL_call (v := ?_) (f := ?_) (args := ?_) (by rfl) ?_ ?_ ?_; rotate_left 3
           · (intro w' hS; go_simp; first | done | (refine ⟨?_, ?_⟩ <;> with_reducible rfl) | with_reducible rfl)
           · (intro w' hS; first
               | ((with_reducible refine (NE.out _).mono ?_); rintro e w2 ⟨rfl, hb⟩; refine ⟨?_, bel2 hS hb⟩; with_reducible rfl))
           try simp only [Act.put, List.setIfInBounds_toArray, List.set_cons_zero, List.set_cons_succ, Nat.reduceAdd]))
      refine wpL_done (fun w9 hS => ?_)
      go_wp2_with fail
      go_ret
      exact FIN.out w9 _ hS (by simp)
    · cases gr
      · by_cases hw0 : c.w = 0
        · have hw1 : (c.w == 0) = true := by rw [hw0]; rfl
          clear hw0
          refine wp_region_c (fun w' => Below w8.heap.size w8 w') (by kernel_rfl) (by kernel_rfl) ((Below.refl _ _).drew) ?_
          repeat (first
            | (refine wpL_skip (by rfl) ?_; try simp only [Act.put, List.setIfInBounds_toArray, List.set_cons_zero, List.set_cons_succ, Nat.reduceAdd])
            | (refine wpL_val (v := ?_) (by rfl) ?_ ?_; rotate_left; · (intro w' hS; go_simp; first | done | with_reducible rfl)
               try simp only [Act.put, List.setIfInBounds_toArray, List.set_cons_zero, List.set_cons_succ, Nat.reduceAdd])
            | (refine wpL_call (v := ?_) (f := ?_) (args := ?_) (by rfl) ?_ ?_ ?_; rotate_left 3
               · (intro w' hS; go_simp; first | done | (refine ⟨?_, ?_⟩ <;> with_reducible rfl) | with_reducible rfl)
               · (intro w' hS; first
                   | ((with_reducible refine (NE.out _).mono ?_); rintro e w2 ⟨rfl, hb⟩; refine ⟨?_, bel2 hS hb⟩; with_reducible rfl))
               try simp only [Act.put, List.setIfInBounds_toArray, List.set_cons_zero, List.set_cons_succ, Nat.reduceAdd]))
          refine wpL_done (fun w9 hS => ?_)
          go_wp2_with fail
          go_ret
          exact FIN.out w9 _ hS (by simp [hw1])
        · have hw1 : (c.w == 0) = false := beq_eq_false_iff_ne.2 hw0
          refine wp_region_c (fun w' => Below w8.heap.size w8 w') (by kernel_rfl) (by kernel_rfl) ((Below.refl _ _).drew) ?_
          repeat (first
            | (refine wpL_skip (by rfl) ?_; try simp only [Act.put, List.setIfInBounds_toArray, List.set_cons_zero, List.set_cons_succ, Nat.reduceAdd])
            | (refine wpL_val (v := ?_) (by rfl) ?_ ?_; rotate_left; · (intro w' hS; go_simp; first | done | with_reducible rfl)
               try simp only [Act.put, List.setIfInBounds_toArray, List.set_cons_zero, List.set_cons_succ, Nat.reduceAdd])
            | (refine wpL_call (v := ?_) (f := ?_) (args := ?_) (by rfl) ?_ ?_ ?_; rotate_left 3
               · (intro w' hS; go_simp; first | done | (refine ⟨?_, ?_⟩ <;> with_reducible rfl) | with_reducible rfl)
               · (intro w' hS; first
                   | ((with_reducible refine (NE.out _).mono ?_); rintro e w2 ⟨rfl, hb⟩; refine ⟨?_, bel2 hS hb⟩; with_reducible rfl))
               try simp only [Act.put, List.setIfInBounds_toArray, List.set_cons_zero, List.set_cons_succ, Nat.reduceAdd]))
          refine wpL_done (fun w9 hS => ?_)
          go_wp2_with fail
          go_ret
          exact FIN.out w9 _ hS (by simp [hw1])
      · refine wp_region_c (fun w' => Below w8.heap.size w8 w') (by kernel_rfl) (by kernel_rfl) ((Below.refl _ _).drew) ?_
        repeat (first
          | (refine wpL_skip (by rfl) ?_; try simp only [Act.put, List.setIfInBounds_toArray, List.set_cons_zero, List.set_cons_succ, Nat.reduceAdd])
          | (refine wpL_val (v := ?_) (by rfl) ?_ ?_; rotate_left; · (intro w' hS; go_simp; first | done | with_reducible rfl)
             try simp only [Act.put, List.setIfInBounds_toArray, List.set_cons_zero, List.set_cons_succ, Nat.reduceAdd])
          | (refine wpL_call (v := ?_) (f := ?_) (args := ?_) (by rfl) ?_ ?_ ?_; rotate_left 3
             · (intro w' hS; go_simp; first | done | (refine ⟨?_, ?_⟩ <;> with_reducible rfl) | with_reducible rfl)
             · (intro w' hS; first
                 | ((with_reducible refine (NE.out _).mono ?_); rintro e w2 ⟨rfl, hb⟩; refine ⟨?_, bel2 hS hb⟩; with_reducible rfl))
             try simp only [Act.put, List.setIfInBounds_toArray, List.set_cons_zero, List.set_cons_succ, Nat.reduceAdd]))
        refine wpL_done (fun w9 hS => ?_)
        go_wp2_with fail
        go_ret
        exact FIN.out w9 _ hS (by simp)
/-- What Put of a command tells. -/
def PutCP (w : World) (E : Int) (e : Ending) (w' : World) : Prop := ∃ v, e = .returned (.tuple #[v, .int .i64 E]) ∧ Below w.heap.size w w'
end Go.Proofs.Yteecgdbicokgoaa
