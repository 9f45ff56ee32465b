/- Drawn regions: what the plan says. -/
import Derived.Test.YtkdhkmcamojkiaaGreatDoorCarve
namespace Go.Ev

/-- What is still outstanding after an operation that asks for 'need': not what it asks for, nor what those ask for. -/
theorem prune_sub : ∀ {W : List WS} {need : Nat} {x : WS}, x ∈ prune W need → x ∈ W
  | [], _, _, h => h
  | y :: W, need, x, h => by
    simp only [prune] at h
    cases hb : bitAt need y.i with
    | true => rw [hb, cond_true] at h; exact List.mem_cons_of_mem _ (prune_sub h)
    | false =>
      rw [hb, cond_false] at h
      rcases List.mem_cons.1 h with rfl | h
      · exact List.mem_cons_self ..
      · exact List.mem_cons_of_mem _ (prune_sub h)

/-- What is outstanding in the machine (a part U of W, closed upwards) is kept: nothing of it is asked for. -/
theorem prune_keeps : ∀ {W : List WS} {need : Nat} (U : WS → Prop), (∀ x ∈ W, U x → need.testBit x.i = false) →
    (∀ x ∈ W, ∀ y ∈ W, U x → ¬ U y → y.m.testBit x.i = false) → ∀ x ∈ W, U x → x ∈ prune W need
  | [], _, _, _, _, _, h, _ => h
  | y :: W, need, U, hn, hu, x, hx, hU => by
    simp only [prune]
    cases hb : bitAt need y.i with
    | true =>
      rw [cond_true]
      rw [bitAt_iff] at hb
      have hyU : ¬ U y := fun h => by rw [hn y (List.mem_cons_self ..) h] at hb; cases hb
      have hxW : x ∈ W := by
        rcases List.mem_cons.1 hx with rfl | h
        · exact absurd hU hyU
        · exact h
      refine prune_keeps U (fun z hz hzU => ?_) (fun z hz v hv => hu z (List.mem_cons_of_mem _ hz) v (List.mem_cons_of_mem _ hv)) x hxW hU
      rw [lor_testBit, hn z (List.mem_cons_of_mem _ hz) hzU, hu z (List.mem_cons_of_mem _ hz) y (List.mem_cons_self ..) hzU hyU]
      rfl
    | false =>
      rw [cond_false]
      rcases List.mem_cons.1 hx with rfl | h
      · exact List.mem_cons_self ..
      · exact List.mem_cons_of_mem _ (prune_keeps U (fun z hz => hn z (List.mem_cons_of_mem _ hz)) (fun z hz v hv => hu z (List.mem_cons_of_mem _ hz) v (List.mem_cons_of_mem _ hv)) x h hU)

theorem firstNon_some {T : Tabs} {l : Nat} : ∀ {all : List WS} {c : WS}, firstNon T l all = some c → c ∈ all ∧ readyAt l c = true ∧ kindOp T c.o.op ≠ .eff
  | [], _, h => nomatch h
  | x :: xs, c, h => by
    simp only [firstNon] at h
    cases hb : (readyAt l x && !isEff (kindOp T x.o.op)) with
    | true =>
      rw [hb, cond_true, Option.some.injEq] at h
      subst h
      rw [Bool.and_eq_true] at hb
      refine ⟨List.mem_cons_self .., hb.1, fun e => ?_⟩
      rw [e] at hb
      cases hb.2
    | false =>
      rw [hb, cond_false] at h
      obtain ⟨h1, h2⟩ := firstNon_some h
      exact ⟨List.mem_cons_of_mem _ h1, h2⟩

theorem readyOnes_mem {l : Nat} : ∀ {all : List WS} {c : WS}, c ∈ readyOnes l all ↔ c ∈ all ∧ readyAt l c = true
  | [], _ => by simp [readyOnes]
  | x :: xs, c => by
    simp only [readyOnes]
    cases hb : readyAt l x with
    | true =>
      rw [cond_true, List.mem_cons, readyOnes_mem, List.mem_cons]
      constructor
      · rintro (rfl | ⟨h1, h2⟩)
        · exact ⟨.inl rfl, hb⟩
        · exact ⟨.inr h1, h2⟩
      · rintro ⟨rfl | h1, h2⟩
        · exact .inl rfl
        · exact .inr ⟨h1, h2⟩
    | false =>
      rw [cond_false, readyOnes_mem, List.mem_cons]
      constructor
      · rintro ⟨h1, h2⟩; exact ⟨.inr h1, h2⟩
      · rintro ⟨rfl | h1, h2⟩
        · rw [hb] at h2; cases h2
        · exact ⟨h1, h2⟩

theorem inL_iff : ∀ {l : List Nat} {n : Nat}, inL l n = true ↔ n ∈ l
  | [], n => by simp [inL]
  | x :: xs, n => by
    simp only [inL]
    cases hb : Nat.beq x n with
    | true => rw [cond_true]; simp [Nat.eq_of_beq_eq_true hb]
    | false =>
      have := Nat.ne_of_beq_eq_false hb
      rw [cond_false, inL_iff, List.mem_cons]
      constructor
      · exact .inr
      · rintro (h | h)
        · exact absurd h.symm this
        · exact h

end Go.Ev
