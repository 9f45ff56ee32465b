/- Operations that read the heap; slices. -/
import Derived.Test.YtkdhkmcamojkiaaGreatDoorPure
import Derived.Laws.BytesString
namespace Go.Ev

section reads
variable {C : Ctx} {ρ : Env} {p : Nat → Prop} {tm : PT AV} {sz : Nat} {a : Act} {hp : Heap} {w : World} {P : Program}

/-! ### Cells -/
theorem cell_at {B k : Nat} {cs' : Array Value} {e : TypeId} {fr : Nat × Nat} (hb : w.heap[B]? = some (.cells cs' e fr)) : w.cell? ⟨B, k, none⟩ = cs'[k]? := by
  simp [World.cell?, hb]

theorem run_getObj {r : Nat} {o : Obj} (h : w.heap[r]? = some o) (hn : ∀ c e f, o ≠ .cells c e f) : (getObj r).run P w = .ok o w := by
  simp only [getObj, Sem.run, h]

theorem run_cells {B off o n : Nat} {cs r : List AV} {cs' : Array Value} {e : TypeId} {fr : Nat × Nat} (hb : w.heap[B]? = some (.cells cs' e fr))
    (hc : ∀ (i : Nat) v, cs[i]? = some v → cs'[off + i]? = some (v.conc ρ)) (ht : takeL (cs.drop o) n = some r) :
    (loadCells ⟨B, off + o, none⟩ n).run P w = .ok (concs ρ r).toArray w := by
  obtain ⟨hn, rfl⟩ := takeL_some ht
  rw [List.length_drop] at hn
  have hl : (concs ρ ((cs.drop o).take n)).length = n := by rw [concs_eq, List.length_map, List.length_take, List.length_drop]; omega
  have := run_loadCells_list (P := P) w ⟨B, off + o, none⟩ (concs ρ ((cs.drop o).take n)) (fun j v hj => by
    rw [addr_add, cell_at hb]
    rw [concs_get] at hj
    cases hx : ((cs.drop o).take n)[j]? with
    | none => rw [hx] at hj; cases hj
    | some x =>
      rw [hx] at hj
      simp only [Option.map_some, Option.some.injEq] at hj
      subst hj
      rw [Nat.add_assoc]
      apply hc
      have hjn : j < n := by
        have := (List.getElem?_eq_some_iff.1 hx).1
        simp only [List.length_take] at this
        omega
      rw [List.getElem?_take_of_lt hjn, List.getElem?_drop] at hx
      exact hx)
  rw [hl] at this
  exact this

theorem run_loadVar {B off o size : Nat} {agg : Bool} {v : AV} {t : TypeId} {cs : List AV} {cs' : Array Value} {e : TypeId} {fr : Nat × Nat} (hb : w.heap[B]? = some (.cells cs' e fr))
    (hc : ∀ (i : Nat) v, cs[i]? = some v → cs'[off + i]? = some (v.conc ρ)) (h : partA cs o size agg = some v)
    (ha : (isAgg t).run P w = .ok agg w) (hs : (sizeOf t).run P w = .ok size w) : (loadVar t ⟨B, off + o, none⟩).run P w = .ok (v.conc ρ) w := by
  unfold partA at h
  unfold loadVar
  cases agg with
  | true =>
    simp only [cond_true, takeK_eq, dropN_eq] at h
    cases ht : takeL (cs.drop o) size with
    | none => rw [ht] at h; cases h
    | some r =>
      rw [ht] at h
      simp only [Option.some.injEq] at h
      subst h
      simp only [Sem.run_bind, ha, hs, Result.andThen_ok, if_true, run_cells hb hc ht, Sem.run_pure, AV.conc]
  | false =>
    simp only [cond_false, nth_eq] at h
    simp only [Sem.run_bind, ha, Result.andThen_ok, Bool.false_eq_true, if_false, run_load, cell_at hb, hc o v h]

theorem partA_ok {cs : List AV} {o size : Nat} {agg : Bool} {v : AV} (h : partA cs o size agg = some v) (hl : ∀ v ∈ cs, v.ok ρ p) : v.ok ρ p := by
  unfold partA at h
  cases agg with
  | true =>
    simp only [cond_true, takeK_eq, dropN_eq] at h
    cases ht : takeL (cs.drop o) size with
    | none => rw [ht] at h; cases h
    | some r =>
      rw [ht] at h
      simp only [Option.some.injEq] at h
      subst h
      obtain ⟨_, rfl⟩ := takeL_some ht
      exact (oks_iff _ _ _).2 fun v hv => hl v (List.mem_of_mem_drop (List.mem_of_mem_take hv))
  | false =>
    simp only [cond_false, nth_eq] at h
    exact hl v (List.mem_of_getElem? h)

/-- A row of cells, as the world has it. -/
theorem Inv.cells (hi : Inv C ρ p hp w) {b : Nat} {cs : List AV} {e : Nat} {ex wr : Bool} {u : Nat} (h : hp.get b = some (.cells cs e ex wr u)) :
    ∃ cs' fr, w.heap[ρ.blk b]? = some (.cells cs' e fr) ∧ CellsRel ρ b cs ex wr u cs' fr ∧ (∀ v ∈ cs, v.ok ρ p) ∧ p b := by
  obtain ⟨h1, h2, o', h3, h4⟩ := hi.sat _ _ h
  obtain ⟨cs', fr, rfl, hr⟩ := h4
  exact ⟨cs', fr, h3, hr, h2, h1⟩

theorem Inv.map (hi : Inv C ρ p hp w) {b : Nat} {es : List (AV × AV × Nat)} {clock : Nat} (h : hp.get b = some (.map es clock)) :
    w.heap[ρ.blk b]? = some (.map (es.map (entryOf ρ)).toArray clock) ∧ (∀ e ∈ es, e.1.ok ρ p ∧ e.2.1.ok ρ p) ∧ p b := by
  obtain ⟨h1, h2, o', h3, h4⟩ := hi.sat _ _ h
  exact ⟨by rw [h3, h4], h2, h1⟩

theorem Inv.fine (hi : Inv C ρ p hp w) (hf : ∀ k, (C.atom k).oneCell' = true) : ρ.fine := fun k => by rw [hi.atom]; exact hf k

theorem loadA_sound (hC : C.Ok) (hi : Inv C ρ p hp w) {t : Nat} {x v : AV} (h : loadA C.T t x hp = some v) (hx : x.ok ρ p) :
    (∃ ad, x.conc ρ = .pointer (some ad) ∧ (loadVar t ad).run C.P w = .ok (v.conc ρ) w) ∧ v.ok ρ p := by
  unfold loadA at h
  split at h
  · cases h
  rename_i i hti
  have hT := hC.ty _ _ hti
  split at h
  · rename_i b o
    split at h
    · cases h
    rename_i cs hcs
    unfold cellsAt at hcs
    split at hcs
    · rename_i e ex wr u hb
      simp only [Option.some.injEq] at hcs
      subst hcs
      obtain ⟨cs', fr, h1, h2, h3, _⟩ := hi.cells hb
      exact ⟨⟨_, rfl, run_loadVar h1 h2.cell h hT.run_agg hT.run_size⟩, partA_ok h h3⟩
    · cases hcs
  · rename_i g
    split at h
    · cases h
    rename_i cs hcs
    obtain ⟨g1, g2, cs', e, fr, g3, g4⟩ := hC.glob _ _ hcs
    refine ⟨⟨⟨g, 0, none⟩, rfl, ?_⟩, partA_ok h fun v hv => g2 v hv _ _⟩
    exact run_loadVar (off := 0) (o := 0) (by rw [hi.old g g1]; exact g3) (fun i v hv => by rw [Nat.zero_add]; exact g4 i v hv ρ hi.atom) h hT.run_agg hT.run_size
  · cases h

theorem aLoad_sound (hC : C.Ok) (hi : Inv C ρ p hp w) (htm : Tm ρ p tm sz a.tmps) {t : Nat} {x : Operand} {v : AV} (h : aLoad C.T tm hp t x = some v) :
    (Instr.loadAt t (a.eval x)).run C.P w = .ok (v.conc ρ) w ∧ v.ok ρ p := by
  unfold aLoad at h
  split at h
  · rename_i pv hx
    obtain ⟨h1, h2⟩ := evalO_some htm hx
    obtain ⟨⟨ad, h3, h4⟩, h5⟩ := loadA_sound hC hi h h2
    exact ⟨by rw [h1, h3]; simp only [Instr.loadAt, Instr.sureAddr, Sem.run_bind, Sem.run_pure, Result.andThen_ok, h4], h5⟩
  · cases h

/-! ### Maps -/
theorem beqB_eq' (a b : Bool) : beqB a b = decide (a = b) := by cases a <;> cases b <;> rfl

/-- A key's kind: 'd' is its description. -/
theorem keyOk_some (hC : C.Ok) {kt : Nat} {k : AV} (h : keyOk C.T kt k = true) : ∃ d, C.P.underlying kt = some d ∧
    ((d = .string ∧ ∃ s, k = .str s) ∨ (∃ j, d = .int j ∧ ∃ k' n, k = .int k' n) ∨ (d = .bool ∧ ∃ b, k = .bool b)) := by
  unfold keyOk at h
  split at h
  · cases h
  rename_i i hi
  obtain ⟨d, hd, hrel⟩ := (hC.ty _ _ hi).desc
  refine ⟨d, hd, ?_⟩
  split at h
  · rename_i hdesc; rw [hdesc] at hrel; exact .inl ⟨hrel, _, rfl⟩
  · rename_i hdesc; rw [hdesc] at hrel; exact .inr (.inl ⟨_, hrel, _, _, rfl⟩)
  · rename_i hdesc; rw [hdesc] at hrel; exact .inr (.inr ⟨hrel, _, rfl⟩)
  · cases h

theorem run_checkKey {kt : Nat} {k : AV} {d : TypeDesc} {empty : Bool} (hd : P.underlying kt = some d)
    (h : (d = .string ∧ ∃ s, k = .str s) ∨ (∃ j, d = .int j ∧ ∃ k' n, k = .int k' n) ∨ (d = .bool ∧ ∃ b, k = .bool b)) (n : Nat) :
    (Instr.checkKey empty (n + 1) kt (k.conc ρ)).run P w = .ok () w := by
  rcases h with ⟨rfl, s, rfl⟩ | ⟨j, rfl, k', m, rfl⟩ | ⟨rfl, b, rfl⟩ <;>
    simp only [Instr.checkKey, Sem.run_bind, run_underlying' hd, Result.andThen_ok, AV.conc, Sem.run_pure]

theorem bytes_beq (s s' : List Nat) : (bytesOf s == bytesOf s') = eqL s s' := by
  have h : (bytesOf s == bytesOf s') = ((bytesOf s).data == (bytesOf s').data) := rfl
  rw [h, eqL_eq, Bool.eq_iff_iff, beq_iff_eq, beq_iff_eq]
  constructor
  · intro h
    have := congrArg (fun b => b.toList) h
    simpa [bytesOf] using this
  · intro h; simp [bytesOf, h]
theorem bytes_eq {s s' : List Nat} (h : eqL s s' = true) : bytesOf s = bytesOf s' := by
  rw [eqL_eq, beq_iff_eq] at h
  simp [bytesOf, h]

theorem sameNow_keyEq {k y : AV} {d : TypeDesc} {r : Bool}
    (h : (d = .string ∧ ∃ s, k = .str s) ∨ (∃ j, d = .int j ∧ ∃ k' n, k = .int k' n) ∨ (d = .bool ∧ ∃ b, k = .bool b)) (hk : keyEq k y = some r) :
    Instr.sameNow d (k.conc ρ) (y.conc ρ) = some r ∧ (r = true → y.conc ρ = k.conc ρ) := by
  rcases h with ⟨rfl, s, rfl⟩ | ⟨j, rfl, k', m, rfl⟩ | ⟨rfl, b, rfl⟩ <;> cases y <;> simp only [keyEq, reduceCtorEq, Option.some.injEq] at hk
  · rename_i s'
    subst hk
    refine ⟨by simp only [Instr.sameNow, AV.conc, bytes_beq], fun he => ?_⟩
    simp only [AV.conc, bytes_eq he]
  · rename_i k2 n2
    cases hkk : kindEq k' k2 with
    | false => rw [hkk] at hk; cases hk
    | true =>
      rw [hkk] at hk
      simp only [cond_true, Option.some.injEq] at hk
      have := kindEq_eq hkk
      subst this
      subst hk
      refine ⟨?_, fun he => ?_⟩
      · simp only [Instr.sameNow, AV.conc, if_true, eqI_eq, Option.some.injEq]
        rfl
      · rw [eqI_eq] at he
        have := of_decide_eq_true he
        subst this
        rfl
  · subst hk
    refine ⟨by simp [Instr.sameNow, AV.conc, beqB_eq], fun he => ?_⟩
    rw [beqB_eq] at he
    have := eq_of_beq he
    subst this
    rfl

theorem findNow_findA {k : AV} {d : TypeDesc} (hk : (d = .string ∧ ∃ s, k = .str s) ∨ (∃ j, d = .int j ∧ ∃ k' n, k = .int k' n) ∨ (d = .bool ∧ ∃ b, k = .bool b)) :
    ∀ {es : List (AV × AV × Nat)} {i : Nat} {r : Option (Nat × AV)}, findA k es i = some r →
      Instr.findNow d (k.conc ρ) (es.map (entryOf ρ)) i = some (r.map fun x => (x.1, x.2.conc ρ)) ∧
      ∀ x, r = some x → ∃ e, es[x.1 - i]? = some e ∧ i ≤ x.1 ∧ e.2.1 = x.2 ∧ e.1.conc ρ = k.conc ρ := by
  intro es
  induction es with
  | nil => intro i r h; simp only [findA, Option.some.injEq] at h; subst h; exact ⟨rfl, by simp⟩
  | cons e es ih =>
    obtain ⟨k', v, n⟩ := e
    intro i r h
    simp only [findA] at h
    split at h
    · cases h
    · rename_i hke
      simp only [Option.some.injEq] at h
      subst h
      obtain ⟨h1, h2⟩ := sameNow_keyEq (ρ := ρ) hk hke
      refine ⟨by simp only [List.map_cons, Instr.findNow, entryOf, h1, Option.map_some], fun x hx => ?_⟩
      simp only [Option.some.injEq] at hx
      subst hx
      exact ⟨(k', v, n), by simp, Nat.le_refl _, rfl, h2 rfl⟩
    · rename_i hke
      obtain ⟨h1, _⟩ := sameNow_keyEq (ρ := ρ) hk hke
      obtain ⟨h3, h4⟩ := ih h
      refine ⟨by simp only [List.map_cons, Instr.findNow, entryOf, h1]; exact h3, fun x hx => ?_⟩
      obtain ⟨e, he, hle, hx2⟩ := h4 x hx
      refine ⟨e, ?_, by omega, hx2⟩
      rw [show x.1 - i = (x.1 - (i + 1)) + 1 from by omega]
      exact he

theorem run_findKey {kt : Nat} {k : AV} {d : TypeDesc} (hd : P.underlying kt = some d)
    (hk : (d = .string ∧ ∃ s, k = .str s) ∨ (∃ j, d = .int j ∧ ∃ k' n, k = .int k' n) ∨ (d = .bool ∧ ∃ b, k = .bool b))
    {es : List (AV × AV × Nat)} {r : Option (Nat × AV)} (h : findA k es 0 = some r) :
    (Instr.findKey kt (k.conc ρ) (es.map (entryOf ρ)).toArray.toList).run P w = .ok (r.map fun x => (x.1, x.2.conc ρ)) w := by
  simp only [Instr.findKey, Sem.run_bind, run_underlying' hd, Result.andThen_ok, (findNow_findA (ρ := ρ) hk h).1, Sem.run_pure]

theorem aLookup_sound (hC : C.Ok) (hi : Inv C ρ p hp w) (htm : Tm ρ p tm sz a.tmps) {t : Nat} {m k : Operand} {ok : Bool} {v : AV} (h : aLookup C.T tm hp t m k ok = some v) :
    (Instr.lookup t (a.eval m) (a.eval k) ok).run C.P w = .ok (v.conc ρ) w ∧ v.ok ρ p := by
  unfold aLookup at h
  split at h
  · cases h
  rename_i i hti
  obtain ⟨d, hd, hrel⟩ := (hC.ty _ _ hti).desc
  split at h
  rotate_left
  · cases h
  rename_i kt et hdesc
  rw [hdesc] at hrel
  have hrel' : d = .map kt et := hrel
  subst hrel'
  split at h
  · cases h
  rename_i e hte
  have hE := hC.ty _ _ hte
  split at h
  · cases h
  rename_i kv hkv
  obtain ⟨hk1, hk2⟩ := evalO_some htm hkv
  cases hko : keyOk C.T kt kv with
  | false => rw [hko] at h; cases h
  | true =>
    rw [hko, cond_true] at h
    obtain ⟨dk, hdk, hkk⟩ := keyOk_some hC hko
    split at h
    · cases h
    rename_i es hes
    have hes' : (∀ e ∈ es, e.2.1.ok ρ p) ∧ ((a.eval m = .map none ∧ es = []) ∨ ∃ r clock, a.eval m = .map (some r) ∧ (getObj r).run C.P w = .ok (.map (es.map (entryOf ρ)).toArray clock) w) := by
      unfold mapAt at hes
      split at hes
      · rename_i hm
        simp only [Option.some.injEq] at hes
        subst hes
        exact ⟨by simp, .inl ⟨(evalO_some htm hm).1, rfl⟩⟩
      · rename_i b hm
        split at hes
        · rename_i es' clock hb
          simp only [Option.some.injEq] at hes
          subst hes
          obtain ⟨h2, h3, _⟩ := hi.map hb
          exact ⟨fun e he => (h3 e he).2, .inr ⟨_, clock, (evalO_some htm hm).1, run_getObj h2 (by simp)⟩⟩
        · cases hes
      · cases hes
    obtain ⟨hok, hes'⟩ := hes'
    have hck : ∀ b, (Instr.checkKey b 10000 kt (kv.conc ρ)).run C.P w = .ok () w := fun b => run_checkKey hdk hkk 9999
    split at h
    · cases h
    · rename_i j v' hf
      simp only [Option.some.injEq] at h
      subst h
      have hfk := run_findKey (P := C.P) (w := w) (ρ := ρ) hdk hkk hf
      obtain ⟨e', he', _, hv', _⟩ := (findNow_findA (ρ := ρ) hkk hf).2 _ rfl
      have hv' : e'.2.1 = v' := hv'
      have hvok : v'.ok ρ p := by rw [← hv']; exact hok e' (List.mem_of_getElem? he')
      have hrun : (Instr.lookup t (a.eval m) (a.eval k) ok).run C.P w = .ok (if ok = true then .tuple #[v'.conc ρ, .bool true] else v'.conc ρ) w := by
        unfold Instr.lookup
        rcases hes' with ⟨hm, rfl⟩ | ⟨r, clock, hm, hg⟩
        · cases hf
        · simp only [Sem.run_bind, run_underlying' hd, Result.andThen_ok, hm, hg, Sem.run_pure, hk1, hck, hfk, Option.map_some]
      rw [hrun]
      cases ok with
      | true => exact ⟨rfl, hvok, trivial, trivial⟩
      | false => exact ⟨rfl, hvok⟩
    · rename_i hf
      simp only [Option.some.injEq] at h
      subst h
      have hfk := run_findKey (P := C.P) (w := w) (ρ := ρ) hdk hkk hf
      have hrun : (Instr.lookup t (a.eval m) (a.eval k) ok).run C.P w = .ok (if ok = true then .tuple #[(zeroOf e).conc ρ, .bool false] else (zeroOf e).conc ρ) w := by
        unfold Instr.lookup
        rcases hes' with ⟨hm, rfl⟩ | ⟨r, clock, hm, hg⟩
        · simp only [List.map_nil] at hfk
          simp only [Sem.run_bind, run_underlying' hd, Result.andThen_ok, hm, Sem.run_pure, hk1, hck, hfk, Option.map_none, hE.run_zero ρ]
        · simp only [Sem.run_bind, run_underlying' hd, Result.andThen_ok, hm, hg, Sem.run_pure, hk1, hck, hfk, Option.map_none, hE.run_zero ρ]
      rw [hrun]
      cases ok with
      | true => exact ⟨rfl, (hE.zero_ok ρ p).1, trivial, trivial⟩
      | false => exact ⟨rfl, (hE.zero_ok ρ p).1⟩

/-! ### Slices -/
theorem boundA_some (htm : Tm ρ p tm sz a.tmps) {d n : Nat} {lo : Option Operand} (h : boundA tm d lo = some n) : (lo = none ∧ n = d) ∨ ∃ x k, lo = some x ∧ a.eval x = .int k (.ofNat n) := by
  unfold boundA at h
  split at h
  · simp only [Option.some.injEq] at h; exact .inl ⟨rfl, h.symm⟩
  · rename_i x
    split at h
    · rename_i k m hx
      simp only [Option.some.injEq] at h
      subst h
      exact .inr ⟨x, k, rfl, (evalO_some htm hx).1⟩
    · cases h

theorem run_sliceBound {k : IntKind} {n y : Nat} {code : BoundsCode} (h : n ≤ y) : (Instr.sliceBound (.int k (.ofNat n)) y code).run P w = .ok n w := by
  have : (0 : Int) ≤ Int.ofNat n ∧ Int.ofNat n ≤ (y : Int) := by simp only [Int.ofNat_eq_natCast]; omega
  simp only [Instr.sliceBound, asIntOf, Sem.run_bind, Sem.run_pure, Result.andThen_ok, if_pos this, Int.toNat]

theorem run_sliceBounds (htm : Tm ρ p tm sz a.tmps) {s : Bool} {len cap l h : Nat} {lo hi : Option Operand} (hl : boundA tm 0 lo = some l) (hh : boundA tm len hi = some h) (h1 : l ≤ h) (h2 : h ≤ cap) :
    (Instr.sliceBounds s len cap (lo.map a.eval) (hi.map a.eval) none).run P w = .ok (l, h, cap) w := by
  unfold Instr.sliceBounds
  rcases boundA_some htm hl with ⟨rfl, rfl⟩ | ⟨x, k, rfl, hx⟩ <;> rcases boundA_some htm hh with ⟨rfl, rfl⟩ | ⟨y, j, rfl, hy⟩
  · simp only [Option.map_none, Sem.run_bind, Sem.run_pure, Result.andThen_ok]
  · simp only [Option.map_none, Option.map_some, Sem.run_bind, Sem.run_pure, Result.andThen_ok, hy, run_sliceBound h2]
  · simp only [Option.map_none, Option.map_some, Sem.run_bind, Sem.run_pure, Result.andThen_ok, hx, run_sliceBound h1]
  · simp only [Option.map_some, Sem.run_bind, Sem.run_pure, Result.andThen_ok, hx, hy, run_sliceBound h1, run_sliceBound h2]

theorem bytesOf_extract (s : List Nat) (l h : Nat) : (bytesOf s).extract l h = bytesOf ((s.drop l).take (h - l)) := by
  apply ByteArray.ext
  simp only [bytesOf, ByteArray.data_extract, List.extract_toArray, List.extract_eq_take_drop, List.map_take, List.map_drop]

theorem aSliceStr_sound (htm : Tm ρ p tm sz a.tmps) {s : List Nat} {lo hi : Option Operand} {v : AV} {t : Nat} (hd : P.underlying t = some .string) (h : aSliceStr tm s lo hi = some v) :
    (Instr.slice t (.string (bytesOf s)) (lo.map a.eval) (hi.map a.eval) none).run P w = .ok (v.conc ρ) w ∧ v.ok ρ p := by
  unfold aSliceStr at h
  split at h
  · cases h
  rename_i l hl
  split at h
  · cases h
  rename_i h' hh
  cases hb : (Nat.ble l h' && Nat.ble h' (lenL s 0)) with
  | false => rw [hb] at h; cases h
  | true =>
    rw [hb, cond_true, takeK_eq, dropN_eq] at h
    simp only [Bool.and_eq_true, Nat.ble_eq, lenL_eq, Nat.add_zero] at hb
    split at h
    · rename_i r hr
      simp only [Option.some.injEq] at h
      subst h
      obtain ⟨_, rfl⟩ := takeL_some hr
      refine ⟨?_, trivial⟩
      rw [lenL_eq, Nat.add_zero] at hh
      have hbd := run_sliceBounds (P := P) (w := w) htm (s := false) (cap := s.length) hl hh hb.1 hb.2
      simp only [Instr.slice, Sem.run_bind, run_underlying' hd, Result.andThen_ok, Option.isSome_none, Bool.false_eq_true, if_false, bytesOf_size, hbd, Sem.run_pure, bytesOf_extract, AV.conc]
    · cases h

theorem sliceOf_sound (hi : Inv C ρ p hp w) (htm : Tm ρ p tm sz a.tmps) {nx : Nat} (hn : ¬ p nx) {b o len : Nat} {cap : ACap} {l h : Nat} {lo hi' : Option Operand} {e size : Nat} {t : Nat}
    (hd : C.P.underlying t = some (.slice e)) (hs : (sizeOf e).run C.P w = .ok size w)
    (hl : boundA tm 0 lo = some l) (hh : boundA tm len hi' = some h) (hok : (AV.slc b o len cap).ok ρ p) {v : AV} (hv : sliceOf b o len cap l h size nx = some v) :
    ∃ ρ', (Instr.slice t ((AV.slc b o len cap).conc ρ) (lo.map a.eval) (hi'.map a.eval) none).run C.P w = .ok (v.conc ρ') w ∧ v.ok ρ' (more p nx (nx + 1)) ∧ Step C ρ p hp w ρ' (more p nx (nx + 1)) hp w := by
  have run : l ≤ h → h ≤ cap.conc ρ → (Instr.slice t ((AV.slc b o len cap).conc ρ) (lo.map a.eval) (hi'.map a.eval) none).run C.P w =
      .ok (.slice (some (if cap.conc ρ = l then ⟨ρ.blk b, ρ.base b + o, none⟩ else ⟨ρ.blk b, ρ.base b + (o + l * size), none⟩)) (h - l) (cap.conc ρ - l)) w := fun h1 h2 => by
    have hbd := run_sliceBounds (P := C.P) (w := w) htm (s := true) (cap := cap.conc ρ) hl hh h1 h2
    simp only [AV.conc, Instr.slice, Sem.run_bind, run_underlying' hd, Result.andThen_ok, hbd, hs, Sem.run_pure]
    split <;> simp only [Option.map_some, addr_add, Nat.add_assoc]
  have keep : ∀ {v : AV}, v.ok ρ p → v.ok ρ (more p nx (nx + 1)) := fun h => AV.ok_mono (.refl _ _) (fun _ => more_left) _ h
  have step : Step C ρ p hp w ρ (more p nx (nx + 1)) hp w := .refl hi rfl (.refl _) fun _ => more_left
  obtain ⟨hb, hc⟩ := hok
  unfold sliceOf at hv
  cases hlh : Nat.ble l h with
  | false => rw [hlh] at hv; cases hv
  | true =>
    rw [hlh, cond_true] at hv
    rw [Nat.ble_eq] at hlh
    cases cap with
    | known c =>
      simp only [natK_eq] at hv
      cases hhc : Nat.ble h c with
      | false => rw [hhc] at hv; cases hv
      | true =>
        rw [hhc, cond_true] at hv
        rw [Nat.ble_eq] at hhc
        have hr := run hlh hhc
        cases hlc : Nat.beq l c with
        | true =>
          rw [hlc, cond_true] at hv
          have e1 := Nat.eq_of_beq_eq_true hlc
          simp only [Option.some.injEq] at hv
          subst hv
          refine ⟨ρ, ?_, keep ⟨hb, ?_⟩, step⟩
          · rw [hr]; simp only [ACap.conc, e1, if_true, AV.conc]
          · show h - l ≤ c - l; omega
        | false =>
          rw [hlc, cond_false] at hv
          have e1 := Nat.ne_of_beq_eq_false hlc
          simp only [Option.some.injEq] at hv
          subst hv
          refine ⟨ρ, ?_, keep ⟨hb, ?_⟩, step⟩
          · have e2 : ¬ c = l := fun x => e1 x.symm
            rw [hr]; simp only [ACap.conc, e2, if_false, AV.conc]
          · show h - l ≤ c - l; omega
    | upto r k =>
      simp only [natK_eq] at hv
      obtain ⟨hpr, hcap⟩ := hc
      cases hhl : Nat.ble h len with
      | false => rw [hhl] at hv; cases hv
      | true =>
        rw [hhl, cond_true] at hv
        rw [Nat.ble_eq] at hhl
        have hr := run hlh (by simp only [ACap.conc]; omega)
        cases hl0 : Nat.beq l 0 with
        | true =>
          have e0 := Nat.eq_of_beq_eq_true hl0
          subst e0
          rw [hl0, cond_true] at hv
          simp only [Option.some.injEq] at hv
          subst hv
          refine ⟨ρ, ?_, keep ⟨hb, hpr, by omega⟩, step⟩
          rw [hr]
          split <;> simp [AV.conc, ACap.conc]
        | false =>
          rw [hl0, cond_false] at hv
          cases hll : Nat.blt l len with
          | true =>
            rw [hll, cond_true] at hv
            rw [Nat.blt_eq] at hll
            simp only [Option.some.injEq] at hv
            subst hv
            refine ⟨ρ, ?_, keep ⟨hb, hpr, by omega⟩, step⟩
            rw [hr, if_neg (by simp only [ACap.conc]; omega)]
            simp only [AV.conc, ACap.conc, Nat.sub_sub]
          | false =>
            rw [hll, cond_false] at hv
            have hnl : ¬ l < len := fun x => by rw [← Nat.blt_eq] at x; rw [x] at hll; cases hll
            simp only [Option.some.injEq] at hv
            subst hv
            have ad : ∃ o', (if (ACap.upto r k).conc ρ = l then (⟨ρ.blk b, ρ.base b + o, none⟩ : Addr) else ⟨ρ.blk b, ρ.base b + (o + l * size), none⟩) = ⟨ρ.blk b, o', none⟩ := by
              split <;> exact ⟨_, rfl⟩
            obtain ⟨o', ho'⟩ := ad
            refine ⟨ρ.with nx (ρ.blk b) o' ((ACap.upto r k).conc ρ - l), ?_, more_one, Step.name hi hn _ _ _ rfl (.refl _)⟩
            rw [hr, ho']
            simp only [AV.conc, Env.with_blk, Env.with_base, Env.with_cap]
            rw [show h - l = 0 from by omega]

theorem aSlice_sound (hC : C.Ok) (hi : Inv C ρ p hp w) (htm : Tm ρ p tm sz a.tmps) {nx : Nat} (hn : ¬ p nx) {t : Nat} {x : Operand} {lo hi' mx : Option Operand} {r : OpR} (h : aSlice C.T tm nx t x lo hi' mx = some r) :
    (∃ v, r = .val v ∧ (Instr.sliceAt t (a.eval x) (lo.map a.eval) (hi'.map a.eval) (mx.map a.eval)).run C.P w = .ok (v.conc ρ) w ∧ v.ok ρ p) ∨
    (∃ v ρ', r = .new v none ∧ (Instr.sliceAt t (a.eval x) (lo.map a.eval) (hi'.map a.eval) (mx.map a.eval)).run C.P w = .ok (v.conc ρ') w ∧ v.ok ρ' (more p nx (nx + 1)) ∧ Step C ρ p hp w ρ' (more p nx (nx + 1)) hp w) := by
  unfold aSlice at h
  split at h
  · cases h
  split at h
  · cases h
  rename_i i hti
  obtain ⟨d, hd, hrel⟩ := (hC.ty _ _ hti).desc
  have hat : (d = .string ∨ ∃ e, d = .slice e) → ∀ (x : Value) (lo hi : Option Value), (Instr.sliceAt t x lo hi none).run C.P w = (Instr.slice t x lo hi none).run C.P w := by
    rintro (rfl | ⟨e, rfl⟩) x lo hi <;> simp [Instr.sliceAt, run_underlying' hd]
  split at h
  · rename_i s hdesc hx
    rw [hdesc] at hrel
    have hrel' : d = .string := hrel
    subst hrel'
    obtain ⟨h1, _⟩ := evalO_some htm hx
    cases hss : aSliceStr tm s lo hi' with
    | none => rw [hss] at h; cases h
    | some v =>
      rw [hss] at h
      simp only [ofVal, Option.some.injEq] at h
      subst h
      refine .inl ⟨v, rfl, ?_⟩
      rw [Option.map_none, hat (.inl rfl), h1]
      exact aSliceStr_sound htm hd hss
  · rename_i e b o len cap hdesc hx
    rw [hdesc] at hrel
    have hrel' : d = .slice e := hrel
    subst hrel'
    obtain ⟨h1, h1'⟩ := evalO_some htm hx
    split at h
    · cases h
    rename_i j hj
    split at h
    · cases h
    rename_i l hl
    split at h
    · cases h
    rename_i h' hh
    split at h
    · cases h
    rename_i v hv
    simp only [Option.some.injEq] at h
    subst h
    obtain ⟨ρ', q1, q2, q3⟩ := sliceOf_sound hi htm hn hd (hC.ty _ _ hj).run_size hl hh h1' hv
    refine .inr ⟨v, ρ', rfl, ?_, q2, q3⟩
    rw [Option.map_none, hat (.inr ⟨e, rfl⟩), h1]
    exact q1
  · rename_i e hdesc hx
    rw [hdesc] at hrel
    have hrel' : d = .slice e := hrel
    subst hrel'
    obtain ⟨h1, _⟩ := evalO_some htm hx
    split at h
    · cases h
    rename_i j hj
    split at h
    rotate_left
    · cases h
    rename_i hl
    split at h
    rotate_left
    · cases h
    rename_i hh
    simp only [Option.some.injEq] at h
    subst h
    refine .inr ⟨.nils, ρ, rfl, ?_, trivial, .refl hi rfl (.refl _) fun _ => more_left⟩
    rw [Option.map_none, hat (.inr ⟨e, rfl⟩), h1]
    have hbd := run_sliceBounds (P := C.P) (w := w) htm (s := true) (len := 0) (cap := 0) hl hh (Nat.le_refl _) (Nat.le_refl _)
    simp only [AV.conc, Instr.slice, Sem.run_bind, run_underlying' hd, Result.andThen_ok, hbd, (hC.ty _ _ hj).run_size, Sem.run_pure]
    simp
  · cases h

end reads
end Go.Ev
