/- Drawn regions: the order's bits; what 'ready' means; the walk of any order, by what is still unlisted. -/
import Derived.Test.YtkdhkmcamojkiaaGreatDoorLocal
import Derived.OrdersIn
namespace Go.Ev

theorem bitAt_iff (m i : Nat) : bitAt m i = m.testBit i := by
  rw [Bool.eq_iff_iff]
  unfold bitAt
  rw [Nat.beq_eq]
  constructor
  · intro h
    have h' : m &&& 2 ^ i = 2 ^ i := h
    have := congrArg (·.testBit i) h'
    simp only [Nat.testBit_and, Nat.testBit_two_pow_self, Bool.and_true] at this
    exact this
  · intro h
    show m &&& 2 ^ i = 2 ^ i
    apply Nat.eq_of_testBit_eq
    intro j
    rw [Nat.testBit_and, Nat.testBit_two_pow]
    by_cases e : i = j
    · subst e; simp [h]
    · simp [e]

theorem subMask_iff (m l : Nat) : subMask m l = true ↔ ∀ i, m.testBit i = true → l.testBit i = true := by
  unfold subMask
  rw [Nat.beq_eq]
  constructor
  · intro h i hi
    have h' : m &&& l = m := h
    rw [← h', Nat.testBit_and, Bool.and_eq_true] at hi
    exact hi.2
  · intro h
    show m &&& l = m
    apply Nat.eq_of_testBit_eq
    intro i
    rw [Nat.testBit_and]
    cases hm : m.testBit i with
    | false => rfl
    | true => rw [h i hm]; rfl

theorem lor_bit (l i j : Nat) : (Nat.lor l (2 ^ i)).testBit j = (l.testBit j || decide (i = j)) := by
  show (l ||| 2 ^ i).testBit j = _
  rw [Nat.testBit_or, Nat.testBit_two_pow]

theorem lor_testBit (a b j : Nat) : (Nat.lor a b).testBit j = (a.testBit j || b.testBit j) := Nat.testBit_or a b j

theorem maskL_bit : ∀ (es : List Edge) (m i : Nat), (maskL es m).testBit i = true ↔ m.testBit i = true ∨ ∃ e ∈ es, Region.binds .any e = true ∧ e.on = i
  | [], m, i => by simp [maskL]
  | e :: es, m, i => by
    rw [maskL]
    cases hb : Region.binds .any e with
    | true =>
      rw [cond_true, maskL_bit es, lor_bit]
      simp only [Bool.or_eq_true, decide_eq_true_eq, List.mem_cons, exists_eq_or_imp, hb, true_and]
      constructor
      · rintro ((h | h) | h)
        · exact .inl h
        · exact .inr (.inl h)
        · exact .inr (.inr h)
      · rintro (h | h | h)
        · exact .inl (.inl h)
        · exact .inl (.inr h)
        · exact .inr h
    | false =>
      rw [cond_false, maskL_bit es]
      simp only [List.mem_cons, exists_eq_or_imp, hb, Bool.false_eq_true, false_and, false_or]

theorem allOps_mem : ∀ (os : List Oper) (k : Nat) (x : WS), x ∈ allOps os k ↔ ∃ j, x.i = k + j ∧ os[j]? = some x.o ∧ x.m = maskL x.o.after.toList 0
  | [], k, x => by simp [allOps]
  | o :: os, k, x => by
    rw [allOps, List.mem_cons, allOps_mem os (k + 1)]
    constructor
    · rintro (rfl | ⟨j, h1, h2, h3⟩)
      · exact ⟨0, rfl, rfl, rfl⟩
      · exact ⟨j + 1, by omega, h2, h3⟩
    · rintro ⟨j, h1, h2, h3⟩
      cases j with
      | zero =>
        left
        simp only [List.getElem?_cons_zero, Option.some.injEq] at h2
        obtain ⟨xi, xo, xm⟩ := x
        simp only at h1 h2 h3
        subst h2
        simp [h1, h3]
      | succ j => exact .inr ⟨j, by omega, h2, h3⟩

/-- What is listed, as bits. -/
structure Lst (ops : Array Oper) (listed : Array Bool) (d : Nat) : Prop where
  size : listed.size = ops.size
  bit : ∀ j, j < ops.size → listed[j]? = some (d.testBit j)
  out : ∀ j, ops.size ≤ j → d.testBit j = false

theorem Lst.init (ops : Array Oper) : Lst ops (Array.replicate ops.size false) 0 :=
  ⟨by simp, fun j hj => by simp [hj], fun j _ => by simp⟩

theorem Lst.set {ops : Array Oper} {listed : Array Bool} {d i : Nat} (h : Lst ops listed d) (hi : i < ops.size) : Lst ops (listed.setIfInBounds i true) (Nat.lor d (2 ^ i)) := by
  refine ⟨by simp [h.size], fun j hj => ?_, fun j hj => ?_⟩
  · rw [lor_bit]
    by_cases e : i = j
    · subst e
      have : i < listed.size := by rw [h.size]; exact hi
      simp [this]
    · rw [Array.getElem?_setIfInBounds_ne e, h.bit j hj]
      simp [e]
  · rw [lor_bit, h.out j hj]
    simp
    omega

theorem ready_iff {ops : Array Oper} {listed : Array Bool} {d : Nat} (h : Lst ops listed d) (j : Nat) :
    j ∈ Region.ready .any ops listed ↔ ∃ x ∈ allOps ops.toList 0, x.i = j ∧ readyAt d x = true := by
  have hget : ∀ k : Nat, listed.getD k false = d.testBit k := fun k => by
    rw [Array.getD_eq_getD_getElem?]
    by_cases hk : k < ops.size
    · rw [h.bit k hk]; rfl
    · rw [h.out k (by omega), Array.getElem?_eq_none (by rw [h.size]; omega)]; rfl
  unfold Region.ready
  rw [List.mem_filter, List.mem_range]
  constructor
  · rintro ⟨hj, hc⟩
    rw [Bool.and_eq_true] at hc
    obtain ⟨h1, h2⟩ := hc
    refine ⟨⟨j, ops[j], maskL ops[j].after.toList 0⟩, (allOps_mem _ _ _).2 ⟨j, by simp, by simp [hj], rfl⟩, rfl, ?_⟩
    unfold readyAt
    rw [Bool.and_eq_true, bitAt_iff, subMask_iff]
    refine ⟨?_, fun i hi => ?_⟩
    · rw [Array.getD_eq_getD_getElem?, h.bit j hj] at h1
      exact h1
    · rcases (maskL_bit _ _ _).1 hi with h0 | ⟨e, he, hb, rfl⟩
      · simp at h0
      · rw [Array.getElem?_eq_getElem hj] at h2
        simp only [Option.map_some, Option.getD_some, Array.all_eq_true_iff_forall_mem] at h2
        have := h2 e (by simpa using he)
        rw [hb, hget] at this
        simpa using this
  · rintro ⟨x, hx, rfl, hr⟩
    obtain ⟨k, h1, h2, h3⟩ := (allOps_mem _ _ _).1 hx
    rw [Nat.zero_add] at h1
    subst h1
    have hlt : x.i < ops.size := by simpa using (List.getElem?_eq_some_iff.1 h2).1
    have ho : ops[x.i]? = some x.o := by rw [← Array.getElem?_toList]; exact h2
    unfold readyAt at hr
    rw [Bool.and_eq_true, bitAt_iff, subMask_iff, h3] at hr
    obtain ⟨r1, r2⟩ := hr
    refine ⟨hlt, ?_⟩
    rw [Bool.and_eq_true]
    refine ⟨?_, ?_⟩
    · rw [Array.getD_eq_getD_getElem?, h.bit x.i hlt]
      exact r1
    · rw [ho]
      simp only [Option.map_some, Option.getD_some, Array.all_eq_true_iff_forall_mem]
      intro e he
      rw [hget]
      cases hb : Region.binds .any e with
      | false => rfl
      | true =>
        have := r2 e.on ((maskL_bit _ _ _).2 (.inr ⟨e, by simpa using he, hb, rfl⟩))
        rw [this]
        rfl

/-- How many are not listed. -/
def unlisted (ops : Array Oper) (d : Nat) : Nat := (List.range ops.size).countP fun j => !d.testBit j

theorem countP_lt {α : Type} {p q : α → Bool} {x : α} : ∀ {l : List α}, (∀ y, q y = true → p y = true) → x ∈ l → p x = true → q x = false → l.countP q < l.countP p
  | [], _, h, _, _ => nomatch h
  | y :: l, hpq, h, hp, hq => by
    have hmono : l.countP q ≤ l.countP p := List.countP_mono_left fun z _ => hpq z
    rcases List.mem_cons.1 h with rfl | h
    · rw [List.countP_cons_of_pos hp, List.countP_cons_of_neg (by rw [hq]; simp)]
      omega
    · have := countP_lt hpq h hp hq
      rw [List.countP_cons, List.countP_cons]
      cases hy : q y with
      | true => rw [hpq y hy]; simp; omega
      | false => cases p y <;> simp <;> omega

theorem unlisted_set {ops : Array Oper} {d i : Nat} (hi : i < ops.size) (hd : d.testBit i = false) : unlisted ops (Nat.lor d (2 ^ i)) < unlisted ops d := by
  unfold unlisted
  refine countP_lt (x := i) (fun y hy => ?_) (List.mem_range.2 hi) (by rw [hd]; rfl) (by rw [lor_bit]; simp)
  rw [lor_bit] at hy
  simp only [Bool.not_eq_true', Bool.or_eq_false_iff] at hy
  rw [hy.1]
  rfl

/-- ANY ORDER, step by step. -/
theorem wpAny_step {F : Fence} {n : Nat} {P : Program} {ops : Array Oper} {Q : Exit → Act → World → Prop} {fuel : Nat} {listed : Array Bool} {d : Nat} {a : Act} {w : World} (hl : Lst ops listed d) (hf : unlisted ops d ≤ fuel)
    (h0 : (∀ x ∈ allOps ops.toList 0, readyAt d x = false) → Q .normal a w)
    (h : ∀ x ∈ allOps ops.toList 0, readyAt d x = true → ∀ fuel', unlisted ops (Nat.lor d (2 ^ x.i)) ≤ fuel' → wpOpIn F n P ops Q x.i (wpAnyIn F n P .any ops Q fuel' (listed.setIfInBounds x.i true)) a w) :
    wpAnyIn F n P .any ops Q fuel listed a w := by
  have hnil : Region.ready .any ops listed = [] → Q .normal a w := fun he => h0 fun x hx => by
    cases hr : readyAt d x with
    | false => rfl
    | true =>
      have := (ready_iff hl x.i).2 ⟨x, hx, rfl, hr⟩
      rw [he] at this
      cases this
  have hlt : ∀ i ∈ Region.ready .any ops listed, ∃ x ∈ allOps ops.toList 0, x.i = i ∧ readyAt d x = true ∧ i < ops.size ∧ d.testBit i = false := fun i hi => by
    obtain ⟨x, hx, rfl, hr⟩ := (ready_iff hl i).1 hi
    obtain ⟨k, h1, h2, _⟩ := (allOps_mem _ _ _).1 hx
    rw [Nat.zero_add] at h1
    have hlt : x.i < ops.size := by rw [h1]; simpa using (List.getElem?_eq_some_iff.1 h2).1
    refine ⟨x, hx, rfl, hr, hlt, ?_⟩
    unfold readyAt at hr
    rw [Bool.and_eq_true, bitAt_iff] at hr
    simpa using hr.1
  cases fuel with
  | zero =>
    have he : Region.ready .any ops listed = [] := by
      cases hr : Region.ready .any ops listed with
      | nil => rfl
      | cons i is =>
        obtain ⟨x, _, _, _, h1, h2⟩ := hlt i (by rw [hr]; exact List.mem_cons_self ..)
        have := unlisted_set h1 h2
        omega
    exact ⟨he, hnil he⟩
  | succ fuel =>
    refine ⟨hnil, fun i hi => ?_⟩
    obtain ⟨x, hx, rfl, hr, h1, h2⟩ := hlt i hi
    have := unlisted_set h1 h2
    exact h x hx hr fuel (by omega)

end Go.Ev
