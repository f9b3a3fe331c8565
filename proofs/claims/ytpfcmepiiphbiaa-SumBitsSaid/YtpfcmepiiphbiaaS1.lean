/- sum.Of, its kinds one by one (printed by gen_sum.py). -/
import Derived.Test.YtpfcmepiiphbiaaS0
namespace Go.Proofs.Ytpfcmepiiphbiaa
open Go.RowKit
set_option linter.unusedVariables false
set_option linter.unusedSimpArgs false
def wdK (k : Nat) : Nat := if k = 1 ∨ k = 2 ∨ k = 3 ∨ k = 7 ∨ k = 8 ∨ k = 9 then 1 else if k = 4 ∨ k = 5 then 2 else if k = 6 then 4 else 0
def wideK (k : Nat) : Nat := if k = 1 then 256 else if k = 2 ∨ k = 4 ∨ k = 7 ∨ k = 8 then 65536 else 4294967296
def startK (k : Nat) : Nat := if k = 8 then 65535 else if k = 9 then 4294967295 else 0
def stepK (k r v : Nat) : Nat := if k = 7 then lowB 40961 r v else if k = 8 then highB r v else if k = 9 then lowB 3988292384 r v else (r + v) % 4294967296
def finK (k r : Nat) : Nat := (if k = 9 then 4294967295 - r else r) % wideK k
def wordV (xs : List Int) (wd : Nat) (big : Bool) (t : Nat) : Nat := (takeB ((xs.drop t).take wd) big).toNat
def accK (k : Nat) (xs : List Int) (big : Bool) : Nat → Nat
  | 0 => startK k
  | j + 1 => stepK k (accK k xs big j) (wordV xs (wdK k) big (wdK k * j))
/-- The sum of bytes, and the error's number. -/
def sumV (k : Nat) (xs : List Int) (big : Bool) : Nat × Int :=
  if wdK k = 0 then (0, 1) else if xs.length % wdK k = 0 then (finK k (accK k xs big (xs.length / wdK k)), 0) else (0, 5)
abbrev b8 (xs : List Int) : Prop := ∀ x ∈ xs, 0 ≤ x ∧ x < 256
theorem takeB_bd (xs : List Int) (big : Bool) (h : b8 xs) : 0 ≤ takeB xs big ∧ takeB xs big < (256 : Int) ^ xs.length := by
  unfold takeB
  split
  · exact be_bd xs h
  · have := be_bd xs.reverse (fun x hx => h x (by simpa using hx))
    simpa using this
theorem wordV_eq (xs : List Int) (wd : Nat) (big : Bool) (t : Nat) (h : b8 xs) : takeB ((xs.drop t).take wd) big = (wordV xs wd big t : Int) := by
  have := (takeB_bd ((xs.drop t).take wd) big (fun x hx => h x (List.mem_of_mem_drop (List.mem_of_mem_take hx)))).1
  unfold wordV
  omega
theorem wordV_lt (xs : List Int) (wd : Nat) (big : Bool) (t : Nat) (h : b8 xs) (ht : t + wd ≤ xs.length) : wordV xs wd big t < 256 ^ wd := by
  have h1 := (takeB_bd ((xs.drop t).take wd) big (fun x hx => h x (List.mem_of_mem_drop (List.mem_of_mem_take hx)))).2
  rw [wordV_eq xs wd big t h, List.length_take, List.length_drop, show min wd (xs.length - t) = wd by omega] at h1
  rw [show (256 : Int) ^ wd = ((256 ^ wd : Nat) : Int) by rw [Int.natCast_pow]; rfl] at h1
  exact Int.ofNat_lt.1 h1
theorem stepK_lt (k r v : Nat) (hr : r < 4294967296) (hv : v < 4294967296) (h8 : k = 8 → r < 65536 ∧ v < 256) : stepK k r v < 4294967296 ∧ (k = 8 → stepK k r v < 65536) := by
  unfold stepK
  by_cases h7 : k = 7
  · rw [if_pos h7]
    exact ⟨lowN_lt (by decide) (xor32 hr hv) 8, fun h => by omega⟩
  · rw [if_neg h7]
    by_cases h8' : k = 8
    · rw [if_pos h8']
      have := h8 h8'
      have hh : highB r v < 65536 := highN_lt (xor16 this.1 (by omega)) 8
      exact ⟨by omega, fun _ => hh⟩
    · rw [if_neg h8']
      by_cases h9 : k = 9
      · rw [if_pos h9]
        exact ⟨lowN_lt (by decide) (xor32 hr hv) 8, fun h => by omega⟩
      · rw [if_neg h9]
        exact ⟨Nat.mod_lt _ (by decide), fun h => by omega⟩
theorem wd_pow (k : Nat) : 256 ^ wdK k ≤ 4294967296 := by
  unfold wdK
  split
  · decide
  · split
    · decide
    · split <;> decide
theorem accK_lt (k : Nat) (xs : List Int) (big : Bool) (h : b8 xs) : ∀ j, wdK k * j ≤ xs.length → accK k xs big j < 4294967296 ∧ (k = 8 → accK k xs big j < 65536)
  | 0, _ => by
    unfold accK startK
    split
    · exact ⟨by decide, fun _ => by decide⟩
    · split
      · exact ⟨by decide, fun h => by omega⟩
      · exact ⟨by decide, fun _ => by decide⟩
  | j + 1, hj => by
    have hj' : wdK k * j + wdK k ≤ xs.length := by rw [Nat.mul_succ] at hj; exact hj
    have ih := accK_lt k xs big h j (by omega)
    have hw := wordV_lt xs (wdK k) big (wdK k * j) h hj'
    have hp := wd_pow k
    exact stepK_lt k _ _ ih.1 (by omega) (fun h8 => ⟨ih.2 h8, by subst h8; exact hw⟩)
theorem results_blk2 {P : Program} {fn : Func} {p u : Tmp} {ty : TypeId} (h : fn.results = #[.cell p ty, .tmp u]) (tmps : Array Value) (w : World) (g : Nat) (t : TypeId) (cs : Array Value) (d : TypeDesc)
    (hp : tmps.getD p undef = .pointer (some ⟨g, 0, none⟩)) (hg : Blk w g t cs) (hu : P.underlying ty = some d) (hd : (match d with | .struct _ | .array _ _ => true | _ => false) = true) (hi : (P.info? ty).map (·.size) = some cs.size) :
    (results fn tmps).run P w = .ok (.tuple #[.agg cs, tmps.getD u undef]) w := by
  have hp' : tmps[p]?.getD undef = .pointer (some ⟨g, 0, none⟩) := by simpa using hp
  rw [results_cell_tmp h]
  simp [hp', asAddr, run_loadVar_row w g t ty cs (0, 0) d hg hu hd hi]
def way0 : Array Value := #[.int .i64 0, .int .i64 0, .int .u32 0, .nilFunc, .bool false]
/-- ways, of each kind. -/
theorem ways_1 (w : World) : Calls Try.prog 37 #[.int .u8 1] w fun e w' => e = .returned (.tuple #[.agg #[.int .i64 1, .int .i64 8, .int .u32 0, .func (.func 42) #[] #[], .bool false], .bool true]) ∧ Below w.heap.size w w' := by
  have B0 := Blk.new w 65 way0
  unfold way0 at B0
  go_enter Try.func37, Try.ntmps37
  go_wp2_with (refine wpList_build rfl 65 _ rfl (by kernel_rfl) ?_; refine wpList_storeB rfl 65 (.tmp 2) (.tmp 7) rfl w.heap.size 65 _ #[.int .i64 1, .int .i64 8, .int .u32 0, .func (.func 42) #[] #[], .bool false] (by kernel_rfl) (by kernel_rfl) B0 rfl (by kernel_rfl) (by simp [Value.oneCell']) ?_; intro w2 B2 hg2)
  refine bodyPost_ret (v := .tuple #[.agg #[.int .i64 1, .int .i64 8, .int .u32 0, .func (.func 42) #[] #[], .bool false], .bool true]) (results_blk2 Try.results37 _ w2 w.heap.size 65 #[.int .i64 1, .int .i64 8, .int .u32 0, .func (.func 42) #[] #[], .bool false] _ rfl B2 Try.underlying65 rfl (by kernel_rfl)) rfl ?_
  exact ⟨rfl, (bl1 w _).grown hg2 (by simp) (fun k hk => by injection hk with hk; omega)⟩
theorem ways_2 (w : World) : Calls Try.prog 37 #[.int .u8 2] w fun e w' => e = .returned (.tuple #[.agg #[.int .i64 1, .int .i64 16, .int .u32 0, .func (.func 42) #[] #[], .bool false], .bool true]) ∧ Below w.heap.size w w' := by
  have B0 := Blk.new w 65 way0
  unfold way0 at B0
  go_enter Try.func37, Try.ntmps37
  go_wp2_with (refine wpList_build rfl 65 _ rfl (by kernel_rfl) ?_; refine wpList_storeB rfl 65 (.tmp 2) (.tmp 10) rfl w.heap.size 65 _ #[.int .i64 1, .int .i64 16, .int .u32 0, .func (.func 42) #[] #[], .bool false] (by kernel_rfl) (by kernel_rfl) B0 rfl (by kernel_rfl) (by simp [Value.oneCell']) ?_; intro w2 B2 hg2)
  refine bodyPost_ret (v := .tuple #[.agg #[.int .i64 1, .int .i64 16, .int .u32 0, .func (.func 42) #[] #[], .bool false], .bool true]) (results_blk2 Try.results37 _ w2 w.heap.size 65 #[.int .i64 1, .int .i64 16, .int .u32 0, .func (.func 42) #[] #[], .bool false] _ rfl B2 Try.underlying65 rfl (by kernel_rfl)) rfl ?_
  exact ⟨rfl, (bl1 w _).grown hg2 (by simp) (fun k hk => by injection hk with hk; omega)⟩
theorem ways_3 (w : World) : Calls Try.prog 37 #[.int .u8 3] w fun e w' => e = .returned (.tuple #[.agg #[.int .i64 1, .int .i64 32, .int .u32 0, .func (.func 42) #[] #[], .bool false], .bool true]) ∧ Below w.heap.size w w' := by
  have B0 := Blk.new w 65 way0
  unfold way0 at B0
  go_enter Try.func37, Try.ntmps37
  go_wp2_with (refine wpList_build rfl 65 _ rfl (by kernel_rfl) ?_; refine wpList_storeB rfl 65 (.tmp 2) (.tmp 13) rfl w.heap.size 65 _ #[.int .i64 1, .int .i64 32, .int .u32 0, .func (.func 42) #[] #[], .bool false] (by kernel_rfl) (by kernel_rfl) B0 rfl (by kernel_rfl) (by simp [Value.oneCell']) ?_; intro w2 B2 hg2)
  refine bodyPost_ret (v := .tuple #[.agg #[.int .i64 1, .int .i64 32, .int .u32 0, .func (.func 42) #[] #[], .bool false], .bool true]) (results_blk2 Try.results37 _ w2 w.heap.size 65 #[.int .i64 1, .int .i64 32, .int .u32 0, .func (.func 42) #[] #[], .bool false] _ rfl B2 Try.underlying65 rfl (by kernel_rfl)) rfl ?_
  exact ⟨rfl, (bl1 w _).grown hg2 (by simp) (fun k hk => by injection hk with hk; omega)⟩
theorem ways_4 (w : World) : Calls Try.prog 37 #[.int .u8 4] w fun e w' => e = .returned (.tuple #[.agg #[.int .i64 2, .int .i64 16, .int .u32 0, .func (.func 42) #[] #[], .bool false], .bool true]) ∧ Below w.heap.size w w' := by
  have B0 := Blk.new w 65 way0
  unfold way0 at B0
  go_enter Try.func37, Try.ntmps37
  go_wp2_with (refine wpList_build rfl 65 _ rfl (by kernel_rfl) ?_; refine wpList_storeB rfl 65 (.tmp 2) (.tmp 16) rfl w.heap.size 65 _ #[.int .i64 2, .int .i64 16, .int .u32 0, .func (.func 42) #[] #[], .bool false] (by kernel_rfl) (by kernel_rfl) B0 rfl (by kernel_rfl) (by simp [Value.oneCell']) ?_; intro w2 B2 hg2)
  refine bodyPost_ret (v := .tuple #[.agg #[.int .i64 2, .int .i64 16, .int .u32 0, .func (.func 42) #[] #[], .bool false], .bool true]) (results_blk2 Try.results37 _ w2 w.heap.size 65 #[.int .i64 2, .int .i64 16, .int .u32 0, .func (.func 42) #[] #[], .bool false] _ rfl B2 Try.underlying65 rfl (by kernel_rfl)) rfl ?_
  exact ⟨rfl, (bl1 w _).grown hg2 (by simp) (fun k hk => by injection hk with hk; omega)⟩
theorem ways_5 (w : World) : Calls Try.prog 37 #[.int .u8 5] w fun e w' => e = .returned (.tuple #[.agg #[.int .i64 2, .int .i64 32, .int .u32 0, .func (.func 42) #[] #[], .bool false], .bool true]) ∧ Below w.heap.size w w' := by
  have B0 := Blk.new w 65 way0
  unfold way0 at B0
  go_enter Try.func37, Try.ntmps37
  go_wp2_with (refine wpList_build rfl 65 _ rfl (by kernel_rfl) ?_; refine wpList_storeB rfl 65 (.tmp 2) (.tmp 19) rfl w.heap.size 65 _ #[.int .i64 2, .int .i64 32, .int .u32 0, .func (.func 42) #[] #[], .bool false] (by kernel_rfl) (by kernel_rfl) B0 rfl (by kernel_rfl) (by simp [Value.oneCell']) ?_; intro w2 B2 hg2)
  refine bodyPost_ret (v := .tuple #[.agg #[.int .i64 2, .int .i64 32, .int .u32 0, .func (.func 42) #[] #[], .bool false], .bool true]) (results_blk2 Try.results37 _ w2 w.heap.size 65 #[.int .i64 2, .int .i64 32, .int .u32 0, .func (.func 42) #[] #[], .bool false] _ rfl B2 Try.underlying65 rfl (by kernel_rfl)) rfl ?_
  exact ⟨rfl, (bl1 w _).grown hg2 (by simp) (fun k hk => by injection hk with hk; omega)⟩
theorem ways_6 (w : World) : Calls Try.prog 37 #[.int .u8 6] w fun e w' => e = .returned (.tuple #[.agg #[.int .i64 4, .int .i64 32, .int .u32 0, .func (.func 42) #[] #[], .bool false], .bool true]) ∧ Below w.heap.size w w' := by
  have B0 := Blk.new w 65 way0
  unfold way0 at B0
  go_enter Try.func37, Try.ntmps37
  go_wp2_with (refine wpList_build rfl 65 _ rfl (by kernel_rfl) ?_; refine wpList_storeB rfl 65 (.tmp 2) (.tmp 22) rfl w.heap.size 65 _ #[.int .i64 4, .int .i64 32, .int .u32 0, .func (.func 42) #[] #[], .bool false] (by kernel_rfl) (by kernel_rfl) B0 rfl (by kernel_rfl) (by simp [Value.oneCell']) ?_; intro w2 B2 hg2)
  refine bodyPost_ret (v := .tuple #[.agg #[.int .i64 4, .int .i64 32, .int .u32 0, .func (.func 42) #[] #[], .bool false], .bool true]) (results_blk2 Try.results37 _ w2 w.heap.size 65 #[.int .i64 4, .int .i64 32, .int .u32 0, .func (.func 42) #[] #[], .bool false] _ rfl B2 Try.underlying65 rfl (by kernel_rfl)) rfl ?_
  exact ⟨rfl, (bl1 w _).grown hg2 (by simp) (fun k hk => by injection hk with hk; omega)⟩
theorem ways_7 (w : World) : Calls Try.prog 37 #[.int .u8 7] w fun e w' => ∃ g, e = .returned (.tuple #[.agg #[.int .i64 1, .int .i64 16, .int .u32 0, .func (.func 45) #[] #[.pointer (some ⟨g, 0, none⟩)], .bool false], .bool true]) ∧ Blk w' g 43 #[.int .u32 40961] ∧ Below w.heap.size w w' := by
  go_enter Try.func37, Try.ntmps37
  go_wp2_with fail
  refine (low_any _ _).mono ?_
  rintro e w1 ⟨g, rfl, hgl, hg, hb1⟩
  have B0 : Blk w1 w.heap.size 65 _ := (Blk.new w 65 _).below hb1
  have hz1 := hb1.size
  simp at hgl hz1
  go_wp2_with (refine wpList_build rfl 65 _ rfl (by kernel_rfl) ?_; refine wpList_storeB rfl 65 (.tmp 2) (.tmp 26) rfl w.heap.size 65 _ #[.int .i64 1, .int .i64 16, .int .u32 0, .func (.func 45) #[] #[.pointer (some ⟨g, 0, none⟩)], .bool false] (by kernel_rfl) (by kernel_rfl) B0 rfl (by kernel_rfl) (by simp [Value.oneCell']) ?_; intro w2 B2 hg2)
  refine bodyPost_ret (v := .tuple #[.agg #[.int .i64 1, .int .i64 16, .int .u32 0, .func (.func 45) #[] #[.pointer (some ⟨g, 0, none⟩)], .bool false], .bool true]) (results_blk2 Try.results37 _ w2 w.heap.size 65 #[.int .i64 1, .int .i64 16, .int .u32 0, .func (.func 45) #[] #[.pointer (some ⟨g, 0, none⟩)], .bool false] _ rfl B2 Try.underlying65 rfl (by kernel_rfl)) rfl ?_
  exact ⟨g, rfl, hg.grown hg2 (by intro h; injection h with h; omega), (bel1 hb1).grown hg2 (by omega) (fun k hk => by injection hk with hk; omega)⟩
theorem ways_8 (w : World) : Calls Try.prog 37 #[.int .u8 8] w fun e w' => e = .returned (.tuple #[.agg #[.int .i64 1, .int .i64 16, .int .u32 65535, .func (.func 44) #[] #[], .bool false], .bool true]) ∧ Below w.heap.size w w' := by
  have B0 := Blk.new w 65 way0
  unfold way0 at B0
  go_enter Try.func37, Try.ntmps37
  go_wp2_with (refine wpList_build rfl 65 _ rfl (by kernel_rfl) ?_; refine wpList_storeB rfl 65 (.tmp 2) (.tmp 29) rfl w.heap.size 65 _ #[.int .i64 1, .int .i64 16, .int .u32 65535, .func (.func 44) #[] #[], .bool false] (by kernel_rfl) (by kernel_rfl) B0 rfl (by kernel_rfl) (by simp [Value.oneCell']) ?_; intro w2 B2 hg2)
  refine bodyPost_ret (v := .tuple #[.agg #[.int .i64 1, .int .i64 16, .int .u32 65535, .func (.func 44) #[] #[], .bool false], .bool true]) (results_blk2 Try.results37 _ w2 w.heap.size 65 #[.int .i64 1, .int .i64 16, .int .u32 65535, .func (.func 44) #[] #[], .bool false] _ rfl B2 Try.underlying65 rfl (by kernel_rfl)) rfl ?_
  exact ⟨rfl, (bl1 w _).grown hg2 (by simp) (fun k hk => by injection hk with hk; omega)⟩
theorem ways_9 (w : World) : Calls Try.prog 37 #[.int .u8 9] w fun e w' => ∃ g, e = .returned (.tuple #[.agg #[.int .i64 1, .int .i64 32, .int .u32 4294967295, .func (.func 45) #[] #[.pointer (some ⟨g, 0, none⟩)], .bool true], .bool true]) ∧ Blk w' g 43 #[.int .u32 3988292384] ∧ Below w.heap.size w w' := by
  go_enter Try.func37, Try.ntmps37
  go_wp2_with fail
  refine (low_any _ _).mono ?_
  rintro e w1 ⟨g, rfl, hgl, hg, hb1⟩
  have B0 : Blk w1 w.heap.size 65 _ := (Blk.new w 65 _).below hb1
  have hz1 := hb1.size
  simp at hgl hz1
  go_wp2_with (refine wpList_build rfl 65 _ rfl (by kernel_rfl) ?_; refine wpList_storeB rfl 65 (.tmp 2) (.tmp 33) rfl w.heap.size 65 _ #[.int .i64 1, .int .i64 32, .int .u32 4294967295, .func (.func 45) #[] #[.pointer (some ⟨g, 0, none⟩)], .bool true] (by kernel_rfl) (by kernel_rfl) B0 rfl (by kernel_rfl) (by simp [Value.oneCell']) ?_; intro w2 B2 hg2)
  refine bodyPost_ret (v := .tuple #[.agg #[.int .i64 1, .int .i64 32, .int .u32 4294967295, .func (.func 45) #[] #[.pointer (some ⟨g, 0, none⟩)], .bool true], .bool true]) (results_blk2 Try.results37 _ w2 w.heap.size 65 #[.int .i64 1, .int .i64 32, .int .u32 4294967295, .func (.func 45) #[] #[.pointer (some ⟨g, 0, none⟩)], .bool true] _ rfl B2 Try.underlying65 rfl (by kernel_rfl)) rfl ?_
  exact ⟨g, rfl, hg.grown hg2 (by intro h; injection h with h; omega), (bel1 hb1).grown hg2 (by omega) (fun k hk => by injection hk with hk; omega)⟩
end Go.Proofs.Ytpfcmepiiphbiaa
