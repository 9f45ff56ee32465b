/- The other operations that make and turn nothing: conversions of values, slices, building, reading. -/
import Derived.Test.YtkdhkmcamojkiaaGreatDoorEqs
namespace Go.Ev

section ops
variable {C : Ctx} {ρ : Env} {p : Nat → Prop} {tm : PT AV} {sz : Nat} {a : Act} {hp : Heap} {w : World}

theorem aPick_sound (htm : Tm ρ p tm sz a.tmps) {c x y : Operand} {v : AV} {P : Program} (h : aPick tm c x y = some v) :
    (do pure (Next.value (if ← asBool (a.eval c) then a.eval x else a.eval y)) : Sem Next).run P w = .ok (.value (v.conc ρ)) w ∧ v.ok ρ p := by
  unfold aPick at h
  split at h
  · rename_i hc
    obtain ⟨h1, h2⟩ := evalO_some htm h
    exact ⟨by rw [(evalO_some htm hc).1]; simp [AV.conc, asBool, h1], h2⟩
  · rename_i hc
    obtain ⟨h1, h2⟩ := evalO_some htm h
    exact ⟨by rw [(evalO_some htm hc).1]; simp [AV.conc, asBool, h1], h2⟩
  · cases h

theorem aNilCheck_sound (htm : Tm ρ p tm sz a.tmps) {x : Operand} {v : AV} (h : aNilCheck tm x = some v) : ∃ b o, a.eval x = .pointer (some ⟨b, o, none⟩) ∧ a.eval x = v.conc ρ ∧ v.ok ρ p := by
  unfold aNilCheck at h
  split at h
  · rename_i b o hx
    simp only [Option.some.injEq] at h
    subst h
    obtain ⟨h1, h2⟩ := evalO_some htm hx
    exact ⟨_, _, h1, h1, h2⟩
  · cases h

theorem aMakeIface_sound (hC : C.Ok) (htm : Tm ρ p tm sz a.tmps) {t : Nat} {x : Operand} {v : AV} (h : aMakeIface C.T tm t x = some v) :
    (Instr.makeInterface t (a.eval x)).run C.P w = .ok (v.conc ρ) w ∧ v.ok ρ p := by
  unfold aMakeIface at h
  split at h
  · cases h
  rename_i i hi
  obtain ⟨d, hd, hrel⟩ := (hC.ty _ _ hi).desc
  split at h
  · cases h
  rename_i hni
  split at h
  · rename_i v' hx
    obtain ⟨h1, h2⟩ := evalO_some htm hx
    simp only [Option.some.injEq] at h
    subst h
    refine ⟨?_, h2⟩
    have hne : ∀ ms, d ≠ .interface ms := fun ms e => by
      subst e
      cases hdesc : i.desc <;> rw [hdesc] at hrel <;> first
        | exact absurd hdesc hni
        | (exact absurd rfl (hrel ms))
        | (obtain ⟨_, _, _, e⟩ := hrel; cases e; done)
        | (obtain ⟨_, e, _⟩ := hrel; cases e; done)
        | (cases hrel; done)
    simp only [Instr.makeInterface, Sem.run_bind, run_underlying' hd, Result.andThen_ok, h1, AV.conc]
    cases d <;> first | rfl | exact absurd rfl (hne _)
  · cases h

theorem aMakeFunc_sound (htm : Tm ρ p tm sz a.tmps) {fn : Fn} {first caps : Array Operand} {v : AV} {P : Program} (h : aMakeFunc tm fn first caps = some v) :
    (Instr.makeFunc fn (first.map a.eval) (caps.map a.eval)).run P w = .ok (v.conc ρ) w ∧ v.ok ρ p := by
  unfold aMakeFunc at h
  split at h
  rotate_left
  · cases h
  split at h
  rotate_left
  · cases h
  rename_i hfirst
  split at h
  · rename_i vs hvs
    simp only [Option.some.injEq] at h
    subst h
    obtain ⟨h1, h2⟩ := evalL_some htm hvs
    have e1 : first = #[] := by rw [← Array.toList_inj]; exact hfirst
    have e2 : caps.map a.eval = (concs ρ vs).toArray := by rw [concs_eq, ← h1, ← Array.toList_inj]; simp
    exact ⟨by simp [Instr.makeFunc, AV.conc, e1, e2], (oks_iff _ _ _).2 h2⟩
  · cases h

/-! ### Building -/
theorem layOver_some : ∀ {vs cs cs' : List AV} {off : Nat}, layOver cs off vs = some cs' → cs'.length = cs.length ∧ (vs ≠ [] → off + vs.length ≤ cs.length) ∧
    ∀ j : Nat, cs'[j]? = if off ≤ j ∧ j < off + vs.length then vs[j - off]? else cs[j]? := by
  intro vs
  induction vs with
  | nil =>
    intro cs cs' off h
    simp only [layOver, Option.some.injEq] at h
    subst h
    refine ⟨rfl, fun h => absurd rfl h, fun j => ?_⟩
    rw [if_neg (by simp only [List.length_nil]; omega)]
  | cons v vs ih =>
    intro cs cs' off h
    simp only [layOver, setK_eq] at h
    cases hs : setL cs off v with
    | none => rw [hs] at h; cases h
    | some cs1 =>
      rw [hs] at h
      obtain ⟨hlt, rfl⟩ := setL_some hs
      obtain ⟨h1, h2, h3⟩ := ih h
      rw [List.length_set] at h1
      refine ⟨h1, fun _ => ?_, fun j => ?_⟩
      · by_cases e : vs = []
        · subst e; simp; omega
        · have := h2 e; simp only [List.length_set] at this; simp; omega
      · rw [h3 j]
        simp only [List.length_cons]
        by_cases hj : off ≤ j ∧ j < off + (vs.length + 1)
        · rw [if_pos hj]
          by_cases e : j = off
          · subst e
            rw [if_neg (by omega)]
            simp [hlt]
          · rw [if_pos (by omega)]
            obtain ⟨k, rfl⟩ : ∃ k, j = off + 1 + k := ⟨j - off - 1, by omega⟩
            rw [show off + 1 + k - (off + 1) = k from by omega, show off + 1 + k - off = k + 1 from by omega]
            rfl
        · rw [if_neg hj, if_neg (by omega), List.getElem?_set_ne (by omega)]

theorem layOver_mem {vs cs cs' : List AV} {off : Nat} (h : layOver cs off vs = some cs') {v : AV} (hv : v ∈ cs') : v ∈ cs ∨ v ∈ vs := by
  obtain ⟨j, hj⟩ := List.getElem?_of_mem hv
  rw [(layOver_some h).2.2 j] at hj
  split at hj
  · exact .inr (List.mem_of_getElem? hj)
  · exact .inl (List.mem_of_getElem? hj)

/-- The model's way to lay a part's cells. -/
theorem foldl_lay (off : Nat) : ∀ (vs : List Value) (k : Nat) (arr : Array Value), (vs.zipIdx k).foldl (fun cs (c : Value × Nat) => cs.setIfInBounds (off + c.2) c.1) arr =
    Array.ofFn (n := arr.size) fun j => if off + k ≤ j.1 ∧ j.1 < off + k + vs.length then (vs[j.1 - (off + k)]?).getD (arr[j.1]?.getD undef) else arr[j.1]?.getD undef := by
  intro vs
  induction vs with
  | nil =>
    intro k arr
    apply Array.ext
    · simp
    · intro i h1 h2
      simp only [List.zipIdx_nil, List.foldl_nil] at h1
      simp
  | cons v vs ih =>
    intro k arr
    rw [List.zipIdx_cons, List.foldl_cons, ih]
    apply Array.ext
    · simp
    · intro i h1 h2
      simp only [Array.size_ofFn, Array.size_setIfInBounds] at h1
      simp only [Array.getElem_ofFn, List.length_cons]
      by_cases e : i = off + k
      · subst e
        rw [if_neg (by omega), if_pos (by omega)]
        simp [h1]
      · have hne : off + k ≠ i := fun x => e x.symm
        rw [Array.getElem?_setIfInBounds_ne hne]
        by_cases hj : off + k ≤ i ∧ i < off + k + (vs.length + 1)
        · rw [if_pos hj, if_pos (by omega)]
          obtain ⟨m, rfl⟩ : ∃ m, i = off + k + 1 + m := ⟨i - (off + k) - 1, by omega⟩
          rw [show off + k + 1 + m - (off + (k + 1)) = m from by omega, show off + k + 1 + m - (off + k) = m + 1 from by omega]
          simp
        · rw [if_neg hj, if_neg (by omega)]

theorem layOver_arr {vs cs cs' : List AV} {off : Nat} (h : layOver cs off vs = some cs') :
    ((concs ρ vs).toArray.zipIdx.foldl (fun cs (c : Value × Nat) => cs.setIfInBounds (off + c.2) c.1) (concs ρ cs).toArray) = (concs ρ cs').toArray := by
  obtain ⟨h1, h2, h3⟩ := layOver_some h
  rw [← Array.foldl_toList, Array.toList_zipIdx, foldl_lay]
  apply Array.ext
  · simp [concs_eq, h1]
  · intro i hi _
    simp only [Array.size_ofFn] at hi
    have hi' : i < cs.length := by simpa [concs_eq] using hi
    have hi2 : i < cs'.length := by omega
    have e := h3 i
    simp only [Array.getElem_ofFn, Nat.add_zero]
    rw [getElem?_pos cs' i hi2] at e
    have hlen : (concs ρ vs).length = vs.length := by simp [concs_eq]
    rw [hlen]
    have r : (concs ρ cs').toArray[i]'(by simpa [concs_eq] using hi2) = (cs'[i]).conc ρ := by simp [concs_eq]
    rw [r]
    split
    · rename_i hj
      rw [if_pos hj] at e
      rw [concs_get, ← e]; rfl
    · rename_i hj
      rw [if_neg hj] at e
      rw [List.getElem?_toArray, concs_get, ← e]; rfl

/-- Atoms are values of one cell. -/
def Env.fine (ρ : Env) : Prop := ∀ k, (ρ.atom k).oneCell' = true

theorem one_conc (hf : ρ.fine) {v : AV} (hv : oneCell v = true) : (v.conc ρ).oneCell' = true := by
  cases v <;> first | rfl | (simp [oneCell] at hv; done) | exact hf _

theorem cells_conc (hf : ρ.fine) (v : AV) : (v.conc ρ).cells = (concs ρ (cellsOf v)).toArray := by
  cases v <;> first | rfl | skip
  rename_i k
  have := hf k
  simp only [AV.conc, cellsOf, concs]
  cases h : ρ.atom k <;> first | rfl | (rw [h] at this; simp [Value.oneCell'] at this; done)

theorem fillA_sound (hf : ρ.fine) {place place' : Nat → Option (Nat × Nat)} (hp : ∀ k x, place k = some x → place' k = some x) : ∀ {l : List (Nat × AV)} {cs cs' : List AV}, fillA place cs l = some cs' →
    Instr.fill place' (concs ρ cs).toArray (l.map fun e => (e.1, e.2.conc ρ)) = some (concs ρ cs').toArray ∧ ∀ v ∈ cs', v ∈ cs ∨ ∃ e ∈ l, v ∈ cellsOf e.2 := by
  intro l
  induction l with
  | nil => intro cs cs' h; simp only [fillA, Option.some.injEq] at h; subst h; exact ⟨rfl, fun v hv => .inl hv⟩
  | cons e l ih =>
    obtain ⟨k, v⟩ := e
    intro cs cs' h
    simp only [fillA] at h
    split at h
    · cases h
    rename_i off size hpl
    cases hb : (Nat.beq (cellsOf v).length size && Nat.blt 0 size) with
    | false => rw [hb] at h; cases h
    | true =>
      rw [hb, cond_true] at h
      simp only [Bool.and_eq_true, Nat.beq_eq, Nat.blt_eq] at hb
      obtain ⟨hb1, hb2⟩ := hb
      split at h
      · cases h
      rename_i cs1 hlay
      obtain ⟨h1, h2, _⟩ := layOver_some hlay
      obtain ⟨h3, h4⟩ := ih h
      have hsize : (v.conc ρ).cells.size = size := by rw [cells_conc hf]; simp [concs_eq, hb1]
      have hne : cellsOf v ≠ [] := fun e => by rw [e] at hb1; simp at hb1; omega
      have hle : ¬ (off + size > (concs ρ cs).toArray.size) := by
        have := h2 hne
        simp [concs_eq]; omega
      refine ⟨?_, fun u hu => ?_⟩
      · simp only [List.map_cons, Instr.fill, hp k _ hpl, hsize, ne_eq, not_true_eq_false, decide_false, Bool.false_or, decide_eq_true_eq, if_neg hle]
        rw [cells_conc hf, layOver_arr hlay]
        exact h3
      · rcases h4 u hu with hm | ⟨e, he, hm⟩
        · rcases layOver_mem hlay hm with hm | hm
          · exact .inl hm
          · exact .inr ⟨(k, v), by simp, hm⟩
        · exact .inr ⟨e, by simp [he], hm⟩

theorem cellsOf_ok {v : AV} (h : v.ok ρ p) : ∀ u ∈ cellsOf v, u.ok ρ p := by
  cases v <;> first
    | (intro u hu; simp only [cellsOf, List.mem_singleton] at hu; subst hu; exact h)
    | exact (oks_iff _ _ _).1 h

/-- The parts of an aggregate, each read. -/
theorem parts_eval (htm : Tm ρ p tm sz a.tmps) {parts : Array (Nat × Operand)} {vs : List AV} (h : evalL tm (parts.toList.map (·.2)) = some vs) :
    (parts.map fun (i, x) => (i, a.eval x)).toList = (((parts.toList.map (·.1)).zip vs).map fun e => (e.1, e.2.conc ρ)) ∧ ∀ e ∈ (parts.toList.map (·.1)).zip vs, e.2.ok ρ p := by
  obtain ⟨h1, h2⟩ := evalL_some htm h
  refine ⟨?_, fun e he => h2 _ (List.of_mem_zip he).2⟩
  have hlen : parts.toList.length = vs.length := by have := congrArg List.length h1; simpa using this
  rw [Array.toList_map]
  apply List.ext_getElem
  · simp [hlen]
  · intro i h3 h4
    simp only [List.length_map] at h3
    have e1 : ((parts.toList.map (·.2)).map a.eval)[i]'(by simpa using h3) = (vs.map (AV.conc ρ))[i]'(by simpa [← hlen] using h3) := by congr 1
    simp only [List.getElem_map] at e1
    simp only [List.getElem_map, List.getElem_zip, ← e1]

theorem aBuild_sound (hC : C.Ok) (hf : ρ.fine) (htm : Tm ρ p tm sz a.tmps) {t : Nat} {parts : Array (Nat × Operand)} {v : AV} (h : aBuild C.T tm t parts = some v) :
    (Instr.build t (parts.map fun (i, x) => (i, a.eval x))).run C.P w = .ok (v.conc ρ) w ∧ v.ok ρ p := by
  unfold aBuild at h
  split at h
  · cases h
  rename_i i hi
  have hT := hC.ty _ _ hi
  obtain ⟨d, hd, hrel⟩ := hT.desc
  split at h
  · cases h
  rename_i vs hvs
  obtain ⟨h1, h2⟩ := parts_eval htm hvs
  split at h
  · cases h
  rename_i place hplace
  split at h
  rotate_left
  · cases h
  rename_i cs hcs
  simp only [Option.some.injEq] at h
  subst h
  have hok : ∀ u ∈ cs, u.ok ρ p := fun u hu => by
    rcases (fillA_sound hf (place' := place) (fun _ _ h => h) hcs).2 u hu with hm | ⟨e, he, hm⟩
    · exact (hT.zero_ok ρ p).2 u hm
    · exact cellsOf_ok (h2 e he) u hm
  refine ⟨?_, (oks_iff _ _ _).2 hok⟩
  unfold Instr.build
  simp only [Sem.run_bind, hT.run_zero ρ, Result.andThen_ok, run_underlying' hd, hT.zero_cells ρ]
  unfold placesOf at hplace
  split at hplace
  · rename_i fs hfs
    rw [hfs] at hrel
    obtain ⟨fields, rfl, hlen, hfl⟩ := hrel
    simp only [Option.some.injEq] at hplace
    subst hplace
    have hmap : ∃ places : Array (Nat × Nat), (fields.mapM fun f => do pure (f.offset, ← sizeOf f.type) : Sem (Array (Nat × Nat))).run C.P w = .ok places w ∧
        ∀ (k : Nat) (x : Nat × Nat), (match nth fs k with | some (off, size, _) => some (off, size) | none => none) = some x → places[k]? = some x := by
      have key : ∀ (l : List Field) (fs : List (Nat × Nat × Bool)), l.length = fs.length → (∀ (i : Nat) f, l[i]? = some f → ∃ size agg, fs[i]? = some (f.offset, size, agg) ∧ ∃ inf, C.P.info? f.type = some inf ∧ inf.size = size) →
          (l.mapM fun f => do pure (f.offset, ← sizeOf f.type) : Sem (List (Nat × Nat))).run C.P w = .ok (fs.map fun x => (x.1, x.2.1)) w := by
        intro l
        induction l with
        | nil => intro fs hl _; cases fs with | nil => rfl | cons _ _ => simp at hl
        | cons f l ih =>
          intro fs hl hx
          cases fs with
          | nil => simp at hl
          | cons x fs =>
            obtain ⟨size, agg, e1, inf, e2, e3⟩ := hx 0 f rfl
            simp only [List.getElem?_cons_zero, Option.some.injEq] at e1
            subst e1
            have := ih fs (by simpa using hl) (fun i f hf => hx (i + 1) f hf)
            have hs : (sizeOf f.type).run C.P w = .ok size w := by simp [sizeOf, typeInfo, e2, e3]
            simp only [List.mapM_cons, Sem.run_bind, hs, Result.andThen_ok, Sem.run_pure]
            rw [this]
            rfl
      refine ⟨(fs.map fun x => (x.1, x.2.1)).toArray, ?_, fun k x hx => ?_⟩
      · rw [← Array.toArray_toList (xs := fields), List.mapM_toArray, Sem.run_map, key _ fs (by simp [hlen])]
        · rfl
        · intro i f hf
          obtain ⟨size, agg, e1, e2, _⟩ := hfl i f (by simpa using hf)
          exact ⟨size, agg, e1, e2⟩
      · rw [nth_eq] at hx
        cases hk : fs[k]? with
        | none => rw [hk] at hx; cases hx
        | some y =>
          rw [hk] at hx
          simp only [Option.some.injEq] at hx
          subst hx
          simp [hk]
    obtain ⟨places, hm1, hm2⟩ := hmap
    have hfill := (fillA_sound hf (place' := (places[·]?)) hm2 hcs).1
    simp only [Sem.run_bind, hm1, Result.andThen_ok, h1, hfill, Sem.run_pure, AV.conc]
  · rename_i n e he
    rw [he] at hrel
    have e' : d = .array n e := hrel
    subst e'
    split at hplace
    · cases hplace
    rename_i j hj
    simp only [Option.some.injEq] at hplace
    subst hplace
    have hfill := (fillA_sound hf (place' := fun i => some (i * j.size, j.size)) (fun _ _ h => h) hcs).1
    simp only [Sem.run_bind, (hC.ty _ _ hj).run_size, Result.andThen_ok, h1, hfill, Sem.run_pure, AV.conc]
  · cases hplace

end ops
end Go.Ev
