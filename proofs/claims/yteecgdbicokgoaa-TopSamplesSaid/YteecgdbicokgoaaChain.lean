/- A region that draws its order, with a chain of operations that write: each comes behind the one ahead of it; all others only read. -/
import Derived.Test.YteecgdbicokgoaaConf
namespace Go.Proofs.Yteecgdbicokgoaa
set_option linter.unusedVariables false
set_option linter.unusedSimpArgs false
section
variable {P : Program} {md : Region.Mode} {ops : Array Oper} {Q : Exit → Act → World → Prop}
/-- How many of the chain have come. -/
def cnt (L : Array Bool) : List Nat → Nat
  | [] => 0
  | i :: r => if L.getD i false then cnt L r + 1 else 0
/-- Each of the chain waits for the one ahead. -/
def linkB (md : Region.Mode) (ops : Array Oper) : List Nat → Bool
  | i :: j :: r => (match ops[j]? with
      | none => false
      | some o => o.after.any fun e => Region.binds md e && e.on == i) && decide (i < j) && linkB md ops (j :: r)
  | _ => true
theorem link_up (L : Array Bool) (hs : Shut md ops L) : ∀ (ch : List Nat) (i : Nat), linkB md ops (i :: ch) = true → L.getD i false = false → ∀ j ∈ ch, L.getD j false = false ∧ i < j
  | [], _, _, _, j, hj => by cases hj
  | k :: r, i, h, hi, j, hj => by
    simp only [linkB, Bool.and_eq_true, decide_eq_true_eq] at h
    obtain ⟨⟨h1, h2⟩, h3⟩ := h
    have hk : L.getD k false = false := by
      cases hL : L.getD k false with
      | false => rfl
      | true =>
        cases ho : ops[k]? with
        | none => rw [ho] at h1; cases h1
        | some o =>
          rw [ho] at h1
          obtain ⟨e, he, hb⟩ := Array.any_eq_true'.1 h1
          rw [Bool.and_eq_true, beq_iff_eq] at hb
          have := hs k o ho hL e he hb.1
          rw [hb.2, hi] at this
          cases this
    rcases List.mem_cons.1 hj with rfl | hj
    · exact ⟨hk, h2⟩
    · have := link_up L hs r k h3 hk j hj
      exact ⟨this.1, by omega⟩
theorem cnt_set_ne {L : Array Bool} {k : Nat} : ∀ (ch : List Nat), k ∉ ch → cnt (L.setIfInBounds k true) ch = cnt L ch
  | [], _ => rfl
  | i :: r, h => by
    have h1 : k ≠ i := fun e => h (by simp [e])
    have h2 : k ∉ r := fun e => h (by simp [e])
    simp only [cnt]
    rw [getD_set_ne false h1, cnt_set_ne r h2]
theorem cnt_at {L : Array Bool} (hs : Shut md ops L) : ∀ (ch : List Nat) (s k : Nat), linkB md ops ch = true → ch[s]? = some k → L.getD k false = false → (∀ p, s = p + 1 → ∃ j, ch[p]? = some j ∧ L.getD j false = true) → cnt L ch = s
  | [], s, k, _, h, _, _ => by simp at h
  | i :: r, 0, k, _, h, hk, _ => by
    simp at h
    subst h
    simp [cnt, hk]
  | i :: r, s + 1, k, hl, h, hk, hp => by
    have hi : L.getD i false = true := by
      cases hL : L.getD i false with
      | true => rfl
      | false =>
        obtain ⟨j, hj, hjt⟩ := hp s rfl
        cases s with
        | zero => simp at hj; subst hj; rw [hL] at hjt; cases hjt
        | succ s =>
          have := link_up L hs r i hl hL j (List.mem_of_getElem? (i := s) (by simpa using hj))
          rw [this.1] at hjt
          cases hjt
    have hl' : linkB md ops r = true := by
      cases r with
      | nil => rfl
      | cons j r => simp only [linkB, Bool.and_eq_true] at hl; exact hl.2
    simp only [cnt]
    rw [if_pos hi, cnt_at hs r s k hl' (by simpa using h) hk fun p hp' => by
      obtain ⟨j, hj, hjt⟩ := hp (p + 1) (by omega)
      exact ⟨j, by simpa using hj, hjt⟩]
theorem cnt_next {L : Array Bool} (hs : Shut md ops L) (hz : L.size = ops.size) : ∀ (ch : List Nat) (s k : Nat), linkB md ops ch = true → ch[s]? = some k → k < ops.size → L.getD k false = false → cnt L ch = s → cnt (L.setIfInBounds k true) ch = s + 1
  | [], s, k, _, h, _, _, _ => by simp at h
  | i :: r, 0, k, hl, h, hkz, hk, _ => by
    simp at h
    subst h
    have h1 : (L.setIfInBounds i true).getD i false = true := by simp [hz, hkz]
    simp only [cnt]
    rw [if_pos h1, cnt_set_ne r fun hm => by have := (link_up L hs r i hl hk i hm).2; omega]
    cases r with
    | nil => rfl
    | cons j r =>
      have := (link_up L hs (j :: r) i hl hk j (by simp)).1
      simp [cnt, this]
  | i :: r, s + 1, k, hl, h, hkz, hk, hc => by
    simp only [cnt] at hc ⊢
    split at hc
    · next hi =>
      rw [if_pos (getD_set_true hi)]
      have hl' : linkB md ops r = true := by
        cases r with
        | nil => rfl
        | cons j r => simp only [linkB, Bool.and_eq_true] at hl; exact hl.2
      rw [cnt_next hs hz r s k hl' (by simpa using h) hkz hk (by omega)]
    · omega
theorem cnt_all {n : Nat} : ∀ (ch : List Nat), (∀ i ∈ ch, i < n) → cnt (Array.replicate n true) ch = ch.length
  | [], _ => rfl
  | i :: r, h => by
    have hi : (Array.replicate n true).getD i false = true := by simp [h i (by simp)]
    simp only [cnt]
    rw [if_pos hi, cnt_all r fun j hj => h j (by simp [hj]), List.length_cons]
theorem cnt_none {n : Nat} (ch : List Nat) : cnt (Array.replicate n false) ch = 0 := by
  cases ch with
  | nil => rfl
  | cons i r =>
    have : (Array.replicate n false).getD i false = false := by
      simp [Array.getElem?_replicate]
      split <;> rfl
    simp only [cnt]
    rw [if_neg (by rw [this]; simp)]
/-- What holds of the world, by how many of the chain have come. -/
abbrev SCh (ops : Array Oper) (ch : List Nat) (Pr : Nat → World → Prop) (L : Array Bool) (w : World) : Prop := L.size = ops.size ∧ Pr (cnt L ch) w
section
variable {ch : List Nat} {Pr : Nat → World → Prop} {R : World → Prop} {k : Nat} {a : Act} {o : Oper} {rest : List Oper} {v : Value}
theorem wpS_val (hR : ∀ s w, Pr s w → R w) (hk : ch.contains k = false) (hw : Region.wanted o (yielded ops a.tmps) = true) (h : ∀ w, R w → (execOp a.eval o).run P w = .ok (.value v) w)
    (hn : wpL P md ops Q (SCh ops ch Pr) (k + 1) rest (a.put o.dst v)) : wpL P md ops Q (SCh ops ch Pr) k (o :: rest) a :=
  wpL_cons (.inl ⟨hw, fun L w hS _ _ _ => by unfold Oper.wp; rw [h w (hR _ w hS.2)]; exact ⟨rfl, by simp [hS.1], by rw [cnt_set_ne ch (by simpa using hk)]; exact hS.2⟩⟩) hn
theorem wpS_skip (hk : ch.contains k = false) (hw : Region.wanted o (yielded ops a.tmps) = false) (hn : wpL P md ops Q (SCh ops ch Pr) (k + 1) rest (a.put o.dst undef)) : wpL P md ops Q (SCh ops ch Pr) k (o :: rest) a :=
  wpL_cons (.inr ⟨hw, rfl, fun L w hS _ _ _ => ⟨by simp [hS.1], by rw [cnt_set_ne ch (by simpa using hk)]; exact hS.2⟩⟩) hn
/-- A call that leaves the world as it was, or grows it. -/
theorem wpS_call {f : FuncId} {args : Array Value} (hR : ∀ s w, Pr s w → R w) (hk : ch.contains k = false) (hw : Region.wanted o (yielded ops a.tmps) = true) (h : ∀ w, R w → (execOp a.eval o).run P w = .ok (.enter f args) w)
    (hc : ∀ s w, Pr s w → Calls P f args w fun e w' => e = .returned v ∧ Pr s w') (hn : wpL P md ops Q (SCh ops ch Pr) (k + 1) rest (a.put o.dst v)) : wpL P md ops Q (SCh ops ch Pr) k (o :: rest) a :=
  wpL_cons (.inl ⟨hw, fun L w hS _ _ _ => by
    unfold Oper.wp
    rw [h w (hR _ w hS.2)]
    exact (hc _ w hS.2).mono fun e w' ⟨he, h'⟩ => by subst he; exact ⟨rfl, by simp [hS.1], by rw [cnt_set_ne ch (by simpa using hk)]; exact h'⟩⟩) hn
/-- One of the chain. -/
theorem wpS_step (s : Nat) (hl : linkB md ops ch = true) (hc : ch[s]? = some k) (hd : (∀ p, s = p + 1 → ∃ j, ch[p]? = some j ∧ (o.after.any fun e => Region.binds md e && e.on == j) = true)) (hz : k < ops.size)
    (h : ∀ w, Pr s w → (Region.wanted o (yielded ops a.tmps) = true ∧ Oper.wp P o a w (fun a' w' => a' = a.put o.dst v ∧ Pr (s + 1) w') QF) ∨ (Region.wanted o (yielded ops a.tmps) = false ∧ v = undef ∧ Pr (s + 1) w))
    (hv : Region.wanted o (yielded ops a.tmps) = false → v = undef)
    (hn : wpL P md ops Q (SCh ops ch Pr) (k + 1) rest (a.put o.dst v)) : wpL P md ops Q (SCh ops ch Pr) k (o :: rest) a := by
  have key : ∀ (L : Array Bool), L.size = ops.size → L.getD k true = false → Shut md ops L → (∀ e ∈ o.after, Region.binds md e = true → L.getD e.on false = true) → cnt L ch = s ∧ cnt (L.setIfInBounds k true) ch = s + 1 := fun L hLz hL hs hdep => by
    rw [← getD_eq hLz hz] at hL
    have h1 := cnt_at hs ch s k hl hc hL fun p hp => by
      obtain ⟨j, hj, hb⟩ := hd p hp
      obtain ⟨e, he, hb⟩ := Array.any_eq_true'.1 hb
      rw [Bool.and_eq_true, beq_iff_eq] at hb
      exact ⟨j, hj, by rw [← hb.2]; exact hdep e he hb.1⟩
    exact ⟨h1, cnt_next hs hLz ch s k hl hc hz hL h1⟩
  cases hw : Region.wanted o (yielded ops a.tmps) with
  | true =>
    refine wpL_cons (.inl ⟨hw, fun L w hS hL hs hdep => ?_⟩) hn
    obtain ⟨h1, h2⟩ := key L hS.1 hL hs hdep
    have h3 := hS.2
    rw [h1] at h3
    rcases h w h3 with h4 | h4
    · exact Oper.wp_mono (fun a' w' h5 => ⟨h5.1, by simp [hS.1], by rw [h2]; exact h5.2⟩) h4.2
    · rw [hw] at h4; cases h4.1
  | false =>
    refine wpL_cons (.inr ⟨hw, hv hw, fun L w hS hL hs hdep => ⟨by simp [hS.1], ?_⟩⟩) hn
    obtain ⟨h1, h2⟩ := key L hS.1 hL hs hdep
    have h3 := hS.2
    rw [h1] at h3
    rcases h w h3 with h4 | h4
    · rw [hw] at h4; cases h4.1
    · rw [h2]; exact h4.2.2
theorem wpS_chain {f : FuncId} {args : Array Value} (s : Nat) (hl : linkB md ops ch = true) (hc : ch[s]? = some k) (hd : (∀ p, s = p + 1 → ∃ j, ch[p]? = some j ∧ (o.after.any fun e => Region.binds md e && e.on == j) = true)) (hz : k < ops.size)
    (hw : Region.wanted o (yielded ops a.tmps) = true) (hR : ∀ s w, Pr s w → R w) (h : ∀ w, R w → (execOp a.eval o).run P w = .ok (.enter f args) w)
    (hcl : ∀ w, Pr s w → Calls P f args w fun e w' => e = .returned v ∧ Pr (s + 1) w') (hn : wpL P md ops Q (SCh ops ch Pr) (k + 1) rest (a.put o.dst v)) : wpL P md ops Q (SCh ops ch Pr) k (o :: rest) a :=
  wpS_step s hl hc hd hz (fun w hw' => .inl ⟨hw, by
    unfold Oper.wp
    rw [h w (hR _ w hw')]
    exact (hcl w hw').mono fun e w' ⟨he, h'⟩ => by subst he; exact ⟨rfl, h'⟩⟩) (fun h' => by rw [hw] at h'; cases h') hn
theorem wpS_done (hch : ch.all (fun i => decide (i < ops.size)) = true) (h : ∀ w, Pr ch.length w → Q .normal a w) : wpL P md ops Q (SCh ops ch Pr) k [] a :=
  wpL_end fun w hS => h w (by
    have := hS.2
    rw [cnt_all ch fun i hi => by have := List.all_eq_true.1 hch i hi; simpa using this] at this
    exact this)
end
theorem wp_region_s {id : Nat} {rs : List Oper} {a : Act} {w : World} (ch : List Nat) (Pr : Nat → World → Prop) (hm : P.follows .mixedOrders = true) (ht : tidy .any rs.toArray = true)
    (hS : Pr 0 w.drew) (h : wpL P .any rs.toArray Q (SCh rs.toArray ch Pr) 0 rs a) : (Code.region id rs.toArray true).wp P Q a w :=
  wp_region_conf (SCh rs.toArray ch Pr) hm ht ⟨by simp, by rw [cnt_none]; exact hS⟩ (h (by simp))
end
end Go.Proofs.Yteecgdbicokgoaa
