/- Operations that make a block. -/
import Derived.Test.YtkdhkmcamojkiaaGreatDoorConvs
namespace Go.Ev

theorem repL_get {α : Type} (zs : List α) : ∀ (n : Nat) (acc : List α) (i : Nat), (repL n zs acc)[i]? = if i < n * zs.length then zs[i % zs.length]? else acc[i - n * zs.length]?
  | 0, acc, i => by simp [repL]
  | n + 1, acc, i => by
    rw [repL, repL_get zs n, Nat.succ_mul]
    by_cases h1 : i < n * zs.length
    · rw [if_pos h1, if_pos (by omega)]
    · rw [if_neg h1]
      by_cases h2 : i < n * zs.length + zs.length
      · rw [if_pos h2, List.getElem?_append_left (by omega)]
        congr 1
        obtain ⟨k, rfl⟩ : ∃ k, i = k + zs.length * n := ⟨i - n * zs.length, by rw [Nat.mul_comm zs.length n]; omega⟩
        rw [Nat.add_mul_mod_self_left, Nat.mul_comm n, Nat.add_sub_cancel, Nat.mod_eq_of_lt]
        rw [Nat.mul_comm n] at h2
        omega
      · rw [if_neg h2, List.getElem?_append_right (by omega), Nat.sub_sub]

theorem repL_length {α : Type} (zs : List α) : ∀ (n : Nat) (acc : List α), (repL n zs acc).length = n * zs.length + acc.length
  | 0, acc => by simp [repL]
  | n + 1, acc => by rw [repL, repL_length zs n, List.length_append, Nat.succ_mul]; omega

theorem wrap_small {n : Nat} (h : n < 9223372036854775808) : IntKind.i64.wrap (Int.ofNat n) = Int.ofNat n := by
  rw [← wrapF_eq]
  simp only [wrapF]
  have : Nat.blt n (2 ^ 63) = true := by rw [Nat.blt_eq]; exact h
  rw [this]
  rfl

section makes
variable {C : Ctx} {ρ : Env} {p : Nat → Prop} {tm : PT AV} {sz : Nat} {a : Act} {hp : Heap} {w : World} {P : Program}

theorem zeros_arr {zs : List AV} {n : Nat} {z : Array Value} (hz : n * zs.length ≠ 0 → z = (concs ρ zs).toArray) :
    (Array.range (n * zs.length)).map (fun i => z[i % z.size]!) = (concs ρ (repL n zs [])).toArray := by
  apply Array.ext
  · simp [concs_eq, repL_length]
  · intro i h1 h2
    simp only [Array.size_map, Array.size_range] at h1
    have hne : n * zs.length ≠ 0 := by omega
    have hz := hz hne
    subst hz
    have hpos : 0 < zs.length := by
      rcases Nat.eq_zero_or_pos zs.length with h | h
      · rw [h] at hne; simp at hne
      · exact h
    have hlt : i % zs.length < zs.length := Nat.mod_lt _ hpos
    have e := repL_get zs n [] i
    have h1' : i < n * zs.length := by simpa using h1
    rw [if_pos h1', List.getElem?_eq_getElem hlt] at e
    have h3 : i < (repL n zs []).length := by rw [repL_length]; omega
    rw [List.getElem?_eq_getElem h3, Option.some.injEq] at e
    simp only [Array.getElem_map, Array.getElem_range, concs_eq, List.size_toArray, List.length_map, List.getElem_toArray, List.getElem_map, e]
    rw [getElem!_pos _ _ (by simpa using hlt)]
    simp

/-- A new row of cells. -/
theorem Step.row (hi : Inv C ρ p hp w) {n : Nat} (hn : ¬ p n) {cs : List AV} {e : Nat} (hok : ∀ v ∈ cs, v.ok ρ p) :
    ∃ ρ', (Go.newRow e (concs ρ cs).toArray).run C.P w = .ok ⟨ρ'.blk n, 0, none⟩ { w with heap := w.heap.push (.cells (concs ρ cs).toArray e) } ∧ ρ'.base n = 0 ∧
      Step C ρ p hp w ρ' (more p n (n + 1)) (hp.set n (some (.cells cs e true true 0))) { w with heap := w.heap.push (.cells (concs ρ cs).toArray e) } := by
  have ha := Env.with_agree (p := p) (ρ := ρ) hn w.heap.size 0 0
  refine ⟨ρ.with n w.heap.size 0 0, by rw [Env.with_blk]; rfl, Env.with_base _ _ _ _ _, ?_⟩
  refine Step.alloc' (w₁ := w) (c := 0) hi hn rfl (.refl _) ⟨_, _, rfl, ⟨fun i v hv => ?_, fun _ => ⟨Env.with_base _ _ _ _ _, by simp [concs_eq]⟩, (fun h => nomatch h), fun _ off _ h => ?_⟩⟩ (fun v hv => AV.ok_mono ha (fun _ => more_left) v (hok v hv))
  · rw [Env.with_base, Nat.zero_add, AV.conc_congr ha v (hok v (List.mem_of_getElem? hv)), List.getElem?_toArray, concs_get, hv]
    rfl
  · simp only at h
    omega

theorem aAlloc_sound (hC : C.Ok) (hi : Inv C ρ p hp w) {nx : Nat} (hn : ¬ p nx) {t : Nat} {r : OpR} (h : aAlloc C.T nx t = some r) :
    ∃ v ob ρ' w', r = .new v (some ob) ∧ (Instr.alloc t true (.tuple #[])).run C.P w = .ok (v.conc ρ') w' ∧ v.ok ρ' (more p nx (nx + 1)) ∧ Step C ρ p hp w ρ' (more p nx (nx + 1)) (hp.set nx (some ob)) w' := by
  unfold aAlloc at h
  split at h
  rotate_left
  · cases h
  rename_i i hti
  have hT := hC.ty _ _ hti
  simp only [Option.some.injEq] at h
  subst h
  obtain ⟨ρ', h1, h2, h3⟩ := Step.row (e := t) hi hn (hT.zero_ok ρ p).2
  refine ⟨_, _, ρ', _, rfl, ?_, more_one, h3⟩
  simp only [Instr.alloc, newVar, Sem.run_bind, hT.run_zero ρ, Result.andThen_ok, hT.zero_cells ρ, h1, Sem.run_pure, AV.conc, h2]

theorem aBox_sound (hf : ρ.fine) (hi : Inv C ρ p hp w) (htm : Tm ρ p tm sz a.tmps) {nx : Nat} (hn : ¬ p nx) {t : Nat} {x : Operand} {r : OpR} (h : aBox tm nx t x = some r) :
    ∃ v ob ρ' w', r = .new v (some ob) ∧ (Instr.box t (a.eval x)).run C.P w = .ok (v.conc ρ') w' ∧ v.ok ρ' (more p nx (nx + 1)) ∧ Step C ρ p hp w ρ' (more p nx (nx + 1)) (hp.set nx (some ob)) w' := by
  unfold aBox at h
  split at h
  rotate_left
  · cases h
  rename_i xv hx
  simp only [Option.some.injEq] at h
  subst h
  obtain ⟨e1, e2⟩ := evalO_some htm hx
  obtain ⟨ρ', h1, h2, h3⟩ := Step.row (e := t) hi hn (cellsOf_ok e2)
  refine ⟨_, _, ρ', _, rfl, ?_, more_one, h3⟩
  rw [e1]
  simp only [Instr.box, newVar, Sem.run_bind, cells_conc hf, h1, Result.andThen_ok, Sem.run_pure, AV.conc, h2]

theorem elemOf_some (hC : C.Ok) {t e : Nat} {j : TyI} (h : elemOf C.T t = some (e, j)) : C.P.underlying t = some (.slice e) ∧ TyOk C.P e j := by
  unfold elemOf at h
  split at h
  · cases h
  rename_i i hti
  obtain ⟨d, hd, hrel⟩ := (hC.ty _ _ hti).desc
  split at h
  rotate_left
  · cases h
  rename_i e' hdesc
  rw [hdesc] at hrel
  cases (show d = .slice e' from hrel)
  split at h
  · cases h
  rename_i j' hj
  simp only [Option.some.injEq, Prod.mk.injEq] at h
  obtain ⟨rfl, rfl⟩ := h
  exact ⟨hd, hC.ty _ _ hj⟩

theorem aBuildSlice_sound (hC : C.Ok) (hf : ρ.fine) (hi : Inv C ρ p hp w) (htm : Tm ρ p tm sz a.tmps) {nx : Nat} (hn : ¬ p nx) {t len : Nat} {parts : Array (Nat × Operand)} {r : OpR} (h : aBuildSlice C.T tm nx t len parts = some r) :
    ∃ v ob ρ' w', r = .new v (some ob) ∧ (Instr.buildSlice t len (parts.map fun (i, x) => (i, a.eval x))).run C.P w = .ok (v.conc ρ') w' ∧ v.ok ρ' (more p nx (nx + 1)) ∧ Step C ρ p hp w ρ' (more p nx (nx + 1)) (hp.set nx (some ob)) w' := by
  unfold aBuildSlice at h
  split at h
  · cases h
  rename_i e j hej
  obtain ⟨hd, hT⟩ := elemOf_some hC hej
  cases hb : Nat.ble (len * j.size) 16777216 with
  | false => rw [hb] at h; cases h
  | true =>
    rw [hb, cond_true] at h
    rw [Nat.ble_eq] at hb
    split at h
    · cases h
    rename_i vs hvs
    obtain ⟨h1, h2⟩ := parts_eval htm hvs
    rw [repK_eq] at h
    split at h
    rotate_left
    · cases h
    rename_i cs hcs
    simp only [Option.some.injEq] at h
    subst h
    obtain ⟨f1, f2⟩ := fillA_sound hf (place' := fun i => some (i * j.size, j.size)) (fun _ _ h => h) hcs
    have hok : ∀ v ∈ cs, v.ok ρ p := fun v hv => by
      rcases f2 v hv with hm | ⟨e, he, hm⟩
      · obtain ⟨i, hi⟩ := List.getElem?_of_mem hm
        rw [repL_get] at hi
        split at hi
        · exact (hT.zero_ok ρ p).2 v (List.mem_of_getElem? hi)
        · simp at hi
      · exact cellsOf_ok (h2 e he) v hm
    obtain ⟨ρ', g1, g2, g3⟩ := Step.row (e := e) hi hn hok
    refine ⟨_, _, ρ', _, rfl, ?_, ⟨more_one, Nat.le_refl _⟩, g3⟩
    have hgt : ¬ (len * j.size > 2 ^ 24) := by omega
    unfold Instr.buildSlice
    have hlen := hT.len
    by_cases h0 : len * j.size = 0
    · have hz := zeros_arr (ρ := ρ) (zs := j.zero) (n := len) (z := #[]) (fun h => absurd (by rw [hlen]; exact h0) h)
      rw [hlen] at hz
      simp only [Sem.run_bind, run_underlying' hd, Result.andThen_ok, hT.run_size, if_neg hgt, if_pos h0, Sem.run_pure, hz, h1, f1, g1, AV.conc, g2, ACap.conc]
    · have hz := zeros_arr (ρ := ρ) (zs := j.zero) (n := len) (fun _ => rfl)
      rw [hlen] at hz
      simp only [Sem.run_bind, run_underlying' hd, Result.andThen_ok, hT.run_size, if_neg hgt, if_neg h0, hT.run_zero ρ, hT.zero_cells ρ, Sem.run_pure, hz, h1, f1, g1, AV.conc, g2, ACap.conc]

theorem aMakeSlice_sound (hC : C.Ok) (hi : Inv C ρ p hp w) (htm : Tm ρ p tm sz a.tmps) {nx : Nat} (hn : ¬ p nx) {t : Nat} {l c : Operand} {r : OpR} (h : aMakeSlice C.T tm nx t l c = some r) :
    ∃ v ob ρ' w', r = .new v (some ob) ∧ (Instr.makeSlice t (a.eval l) (a.eval c)).run C.P w = .ok (v.conc ρ') w' ∧ v.ok ρ' (more p nx (nx + 1)) ∧ Step C ρ p hp w ρ' (more p nx (nx + 1)) (hp.set nx (some ob)) w' := by
  unfold aMakeSlice at h
  split at h
  · cases h
  rename_i e j hej
  obtain ⟨hd, hT⟩ := elemOf_some hC hej
  split at h
  rotate_left
  · cases h
  rename_i k n hl
  split at h
  rotate_left
  · cases h
  rename_i k' m hc
  cases hb : (Nat.ble n m && Nat.ble (m * j.bytes) 1048576 && Nat.ble m 1048576) with
  | false => rw [hb] at h; cases h
  | true =>
    rw [hb, cond_true, repK_eq] at h
    simp only [Bool.and_eq_true, Nat.ble_eq] at hb
    obtain ⟨⟨b1, b2⟩, b3⟩ := hb
    simp only [Option.some.injEq] at h
    subst h
    obtain ⟨e1, _⟩ := evalO_some htm hl
    obtain ⟨e2, _⟩ := evalO_some htm hc
    have hok : ∀ v ∈ repL m j.zero [], v.ok ρ p := fun v hv => by
      obtain ⟨i, hi⟩ := List.getElem?_of_mem hv
      rw [repL_get] at hi
      split at hi
      · exact (hT.zero_ok ρ p).2 v (List.mem_of_getElem? hi)
      · simp at hi
    obtain ⟨ρ', g1, g2, g3⟩ := Step.row (e := e) hi hn hok
    refine ⟨_, _, ρ', _, rfl, ?_, ⟨more_one, b1⟩, g3⟩
    obtain ⟨inf, i1, i2, i3, _⟩ := hT.run_info (w := w)
    have w1 := wrap_small (n := n) (by omega)
    have w2 := wrap_small (n := m) (by omega)
    have hmul : ((j.bytes : Int) * (m : Int)) = ((m * j.bytes : Nat) : Int) := by rw [Nat.mul_comm]; simp
    have hbad : ¬ ((((decide (Int.ofNat m < 0) || decide ((inf.bytes : Int) * Int.ofNat m > 2 ^ 48)) || decide (Int.ofNat n < 0)) || decide (Int.ofNat n > Int.ofNat m)) = true) := by
      simp only [Int.ofNat_eq_natCast, i3, hmul, Bool.or_eq_true, decide_eq_true_eq]
      omega
    have hlen := hT.len
    unfold Instr.makeSlice
    rw [e1, e2]
    simp only [Sem.run_bind, run_underlying' hd, Result.andThen_ok, AV.conc, asInt, asIntOf, Sem.run_pure, i1, w1, w2, if_neg hbad, run_askRoom, hT.run_size]
    have n1 : (Int.ofNat m).toNat = m := rfl
    have n2 : (Int.ofNat n).toNat = n := rfl
    rw [n1, n2]
    by_cases h0 : m * j.size = 0
    · have hz := zeros_arr (ρ := ρ) (zs := j.zero) (n := m) (z := #[]) (fun h => absurd (by rw [hlen]; exact h0) h)
      rw [hlen] at hz
      simp only [Sem.run_bind, Result.andThen_ok, if_pos h0, Sem.run_pure, hz, g1, g2, ACap.conc]
    · have hz := zeros_arr (ρ := ρ) (zs := j.zero) (n := m) (fun _ => rfl)
      rw [hlen] at hz
      simp only [Sem.run_bind, Result.andThen_ok, if_neg h0, hT.run_zero ρ, hT.zero_cells ρ, Sem.run_pure, hz, g1, g2, ACap.conc]

/-- A new object that is no row of cells. -/
theorem Step.obj (hi : Inv C ρ p hp w) {n : Nat} (hn : ¬ p n) {ob : AObj} {o : Obj} (hr : ObjRel (ρ.with n w.heap.size 0 0) n ob o) (hok : ob.ok (ρ.with n w.heap.size 0 0) (more p n (n + 1))) :
    ∃ ρ', (newObj o).run C.P w = .ok (ρ'.blk n) { w with heap := w.heap.push o } ∧ ρ'.base n = 0 ∧
      Step C ρ p hp w ρ' (more p n (n + 1)) (hp.set n (some ob)) { w with heap := w.heap.push o } :=
  ⟨ρ.with n w.heap.size 0 0, by rw [Env.with_blk]; rfl, Env.with_base _ _ _ _ _, Step.alloc' (w₁ := w) hi hn rfl (.refl _) hr hok⟩

theorem aMakeMap_sound (hi : Inv C ρ p hp w) {nx : Nat} (hn : ¬ p nx) {t : Nat} :
    ∃ ρ' w', (Instr.makeMap t none).run C.P w = .ok ((AV.map nx).conc ρ') w' ∧ (AV.map nx).ok ρ' (more p nx (nx + 1)) ∧ Step C ρ p hp w ρ' (more p nx (nx + 1)) (hp.set nx (some (.map [] 0))) w' := by
  obtain ⟨ρ', g1, _, g3⟩ := Step.obj (ob := .map [] 0) (o := .map #[] 0) hi hn rfl (fun _ h => nomatch h)
  refine ⟨ρ', _, ?_, more_one, g3⟩
  simp only [Instr.makeMap, Sem.run_bind, g1, Result.andThen_ok, Sem.run_pure, AV.conc]

theorem aRange_sound (hC : C.Ok) (hi : Inv C ρ p hp w) (htm : Tm ρ p tm sz a.tmps) {nx : Nat} (hn : ¬ p nx) {t : Nat} {x : Operand} {r : OpR} (h : aRange C.T tm nx t x = some r) :
    ∃ v ob ρ' w', r = .new v (some ob) ∧ (Instr.range t (a.eval x)).run C.P w = .ok (v.conc ρ') w' ∧ v.ok ρ' (more p nx (nx + 1)) ∧ Step C ρ p hp w ρ' (more p nx (nx + 1)) (hp.set nx (some ob)) w' := by
  unfold aRange at h
  split at h
  · cases h
  rename_i i hti
  obtain ⟨d, hd, hrel⟩ := (hC.ty _ _ hti).desc
  split at h
  rotate_left
  · cases h
  rename_i s hdesc hx
  rw [hdesc] at hrel
  cases (show d = .string from hrel)
  simp only [Option.some.injEq] at h
  subst h
  obtain ⟨e1, _⟩ := evalO_some htm hx
  obtain ⟨ρ', g1, g2, g3⟩ := Step.obj (ob := .siter s 0) (o := .stringIter (bytesOf s) 0) hi hn ⟨Env.with_base _ _ _ _ _, rfl⟩ trivial
  refine ⟨_, _, ρ', _, rfl, ?_, more_one, g3⟩
  rw [e1]
  simp only [Instr.range, Sem.run_bind, run_underlying' hd, Result.andThen_ok, AV.conc, Sem.run_pure, g1, g2]

end makes
end Go.Ev
