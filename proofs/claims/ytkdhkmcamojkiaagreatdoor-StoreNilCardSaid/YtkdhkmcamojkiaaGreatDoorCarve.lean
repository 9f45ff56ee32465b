/- Drawn regions: values compared; blocks taken out of a heap and put back. -/
import Derived.Test.YtkdhkmcamojkiaaGreatDoorBits
namespace Go.Ev

theorem eqNats_eq : ∀ {a b : List Nat}, eqNats a b = true → a = b
  | [], [], _ => rfl
  | [], _ :: _, h => nomatch h
  | _ :: _, [], h => nomatch h
  | x :: xs, y :: ys, h => by
    simp only [eqNats] at h
    cases hx : Nat.beq x y with
    | false => rw [hx] at h; cases h
    | true =>
      rw [hx, cond_true] at h
      rw [Nat.eq_of_beq_eq_true hx, eqNats_eq h]

theorem eqCap_eq {a b : ACap} (h : eqCap a b = true) : a = b := by
  cases a <;> cases b <;> simp only [eqCap, Bool.and_eq_true, Nat.beq_eq, Bool.false_eq_true] at h
  · rw [h]
  · rw [h.1, h.2]

theorem eq1_eq {a b : AV} (h : eq1 a b = true) : a = b := by
  cases a <;> cases b <;> first
    | rfl
    | (exact Bool.noConfusion h)
    | skip
  · simp only [eq1, beqB_eq, beq_iff_eq] at h; rw [h]
  · simp only [eq1, Bool.and_eq_true, eqI_eq, decide_eq_true_eq] at h; rw [kindEq_eq h.1, h.2]
  · rw [eqNats_eq h]
  · simp only [eq1, Bool.and_eq_true, Nat.beq_eq] at h; rw [h.1, h.2]
  · rw [Nat.eq_of_beq_eq_true h]
  · simp only [eq1, Bool.and_eq_true, Nat.beq_eq] at h
    obtain ⟨⟨⟨rfl, rfl⟩, rfl⟩, h4⟩ := h
    rw [eqCap_eq h4]
  · rw [Nat.eq_of_beq_eq_true h]
  · rw [Nat.eq_of_beq_eq_true h]
  · rw [Nat.eq_of_beq_eq_true h]
  · rw [Nat.eq_of_beq_eq_true h]

theorem eq1s_eq : ∀ {a b : List AV}, eq1s a b = true → a = b
  | [], [], _ => rfl
  | [], _ :: _, h => nomatch h
  | _ :: _, [], h => nomatch h
  | x :: xs, y :: ys, h => by
    simp only [eq1s] at h
    cases hx : eq1 x y with
    | false => rw [hx] at h; cases h
    | true =>
      rw [hx, cond_true] at h
      rw [eq1_eq hx, eq1s_eq h]

theorem eqAV_eq {a b : AV} (h : eqAV a b = true) : a = b := by
  unfold eqAV at h
  split at h
  · rw [eq1s_eq h]
  · rw [eq1s_eq h]
  · simp only [Bool.and_eq_true, Nat.beq_eq] at h; rw [h.1, eq1s_eq h.2]
  · simp only [Bool.and_eq_true, Nat.beq_eq] at h; rw [h.1, eq1_eq h.2]
  · exact eq1_eq h

section around
variable {C : Ctx} {ρ ρ' : Env} {p p' : Nat → Prop} {hp hq hp' hr : Heap} {w w' : World}

/-- Fewer blocks are known. -/
theorem Inv.sub (h : Inv C ρ p hp w) (hs : ∀ id o, hq.get id = some o → hp.get id = some o) : Inv C ρ p hq w :=
  ⟨fun id o ho => h.sat id o (hs id o ho), fun i i' x x' hx hx' => h.inj i i' x x' (hs _ _ hx) (hs _ _ hx'), fun i x hx => h.own i x (hs _ _ hx), h.old, h.size, h.atom⟩

/-- Blocks that were not known while a step was made are put back behind it. 'put': those. -/
theorem Step.around (h : Inv C ρ p hp w) (hs : ∀ id o, hq.get id = some o → hp.get id = some o) (hst : Step C ρ p hq w ρ' p' hp' w') (put : Nat → Prop) (hput : ∀ id, put id → hq.get id = none)
    (hr1 : ∀ id, put id → hr.get id = hp.get id) (hr2 : ∀ id o, ¬ put id → hr.get id = some o → hp'.get id = some o) : Step C ρ p hp w ρ' p' hr w' := by
  have blk : ∀ id o, put id → hr.get id = some o → hp.get id = some o ∧ p id ∧ o.ok ρ p ∧ ρ'.blk id = ρ.blk id ∧ w'.heap[ρ.blk id]? = w.heap[ρ.blk id]? ∧ ∀ i x, hq.get i = some x → ρ.blk i ≠ ρ.blk id := by
    intro id o hp0 ho
    rw [hr1 id hp0] at ho
    obtain ⟨q1, q2, o', q3, q4⟩ := h.sat id o ho
    have hne : ∀ i x, hq.get i = some x → ρ.blk i ≠ ρ.blk id := fun i x hx e => by
      have := h.inj i id x o (hs i x hx) ho e
      subst this
      rw [hput i hp0] at hx
      cases hx
    exact ⟨ho, q1, q2, (hst.agree.2 id q1).1, hst.frame _ (h.lt ho) hne, hne⟩
  refine ⟨⟨fun id o ho => ?_, fun i i' x x' hx hx' hb => ?_, fun id o ho => ?_, hst.inv.old, hst.inv.size, hst.inv.atom⟩, hst.agree, hst.mono, hst.grow, fun b hb hn => hst.frame b hb fun id o ho => hn id o (hs id o ho), fun id o ho => ?_, hst.same⟩
  · by_cases hp0 : put id
    · obtain ⟨b1, b2, b3, b4, b5, _⟩ := blk id o hp0 ho
      obtain ⟨_, _, o', q3, q4⟩ := h.sat id o b1
      exact ⟨hst.mono id b2, AObj.ok_mono hst.agree hst.mono o b3, o', by rw [b4, b5]; exact q3, q4.congr hst.agree b2 b3⟩
    · exact hst.inv.sat id o (hr2 id o hp0 ho)
  · have cross : ∀ i i' x x', put i → ¬ put i' → hr.get i = some x → hr.get i' = some x' → ρ'.blk i ≠ ρ'.blk i' := by
      intro i i' x x' c1 c2 cx cx' e
      obtain ⟨b1, b2, _, b4, _, b6⟩ := blk i x c1 cx
      rcases hst.orig i' x' (hr2 i' x' c2 cx') with hge | ⟨id₀, o₀, g1, g2⟩
      · have := h.lt b1
        rw [← e, b4] at hge
        omega
      · exact b6 id₀ o₀ g1 (g2.trans (e.symm.trans b4))
    by_cases c1 : put i
    · by_cases c2 : put i'
      · obtain ⟨b1, _, _, b4, _⟩ := blk i x c1 hx
        obtain ⟨b1', _, _, b4', _⟩ := blk i' x' c2 hx'
        rw [b4, b4'] at hb
        exact h.inj _ _ _ _ b1 b1' hb
      · exact absurd hb (cross i i' x x' c1 c2 hx hx')
    · by_cases c2 : put i'
      · exact absurd hb.symm (cross i' i x' x c2 c1 hx' hx)
      · exact hst.inv.inj _ _ _ _ (hr2 i x c1 hx) (hr2 i' x' c2 hx') hb
  · by_cases c1 : put id
    · obtain ⟨b1, _, _, b4, _⟩ := blk id o c1 ho
      rw [b4]
      exact h.own id o b1
    · exact hst.inv.own id o (hr2 id o c1 ho)
  · by_cases c1 : put id
    · obtain ⟨b1, _, _, b4, _⟩ := blk id o c1 ho
      exact .inr ⟨id, o, b1, b4.symm⟩
    · rcases hst.orig id o (hr2 id o c1 ho) with hge | ⟨id₀, o₀, g1, g2⟩
      · exact .inl hge
      · exact .inr ⟨id₀, o₀, hs _ _ g1, g2⟩

end around
end Go.Ev
