/- Operations that turn memory. -/
import Derived.Test.YtkdhkmcamojkiaaGreatDoorMakes
import Derived.Laws.IdiomCopy
import Derived.Laws.RangeString
namespace Go.Ev

/-! ### Cells written -/
theorem setCells_heap {b : Nat} : ∀ (vs : List Value) (o : Nat) (w : World) (c : Array Value) (e : Nat) (fr : Nat × Nat), w.heap[b]? = some (.cells c e fr) → o + vs.length ≤ c.size →
    ∃ c', (w.setCells b o vs).heap[b]? = some (.cells c' e fr) ∧ c'.size = c.size ∧ (∀ j : Nat, c'[j]? = if o ≤ j ∧ j < o + vs.length then vs[j - o]? else c[j]?) ∧
      (w.setCells b o vs).heap.size = w.heap.size ∧ (∀ b' : Nat, b' ≠ b → (w.setCells b o vs).heap[b']? = w.heap[b']?) ∧ World.same w (w.setCells b o vs)
  | [], o, w, c, e, fr, hb, _ => ⟨c, hb, rfl, fun j => by rw [if_neg (by simp only [List.length_nil]; omega)], rfl, fun _ _ => rfl, .refl _⟩
  | v :: vs, o, w, c, e, fr, hb, hl => by
    simp only [List.length_cons] at hl
    have h1 : (w.setCell ⟨b, o, none⟩ v).heap[b]? = some (.cells (c.setIfInBounds o v) e fr) := by
      simp [World.setCell, Array.getElem?_modify, hb]
    obtain ⟨c', q1, q2, q3, q4, q5, q6⟩ := setCells_heap vs (o + 1) (w.setCell ⟨b, o, none⟩ v) _ e fr h1 (by simp; omega)
    refine ⟨c', q1, by rw [q2]; simp, fun j => ?_, by rw [World.setCells, q4]; simp [World.setCell], fun b' hb' => ?_, ?_⟩
    · rw [q3 j, List.length_cons]
      by_cases hj : o + 1 ≤ j ∧ j < o + 1 + vs.length
      · rw [if_pos hj, if_pos (by omega)]
        obtain ⟨k, rfl⟩ : ∃ k, j = o + 1 + k := ⟨j - o - 1, by omega⟩
        rw [show o + 1 + k - (o + 1) = k from by omega, show o + 1 + k - o = k + 1 from by omega]
        rfl
      · rw [if_neg hj]
        by_cases e : j = o
        · subst e
          rw [if_pos (by omega)]
          have : j < c.size := by omega
          simp [this]
        · rw [if_neg (by omega), Array.getElem?_setIfInBounds_ne (fun x => e x.symm)]
    · rw [World.setCells, q5 b' hb']
      simp only [World.setCell, Array.getElem?_modify]
      rw [if_neg (fun x => hb' x.symm)]
    · exact World.same.trans (w' := w.setCell ⟨b, o, none⟩ v) ⟨rfl, rfl, rfl⟩ q6

theorem allOne_mem : ∀ {l : List AV}, allOne l = true → ∀ v ∈ l, oneCell v = true
  | [], _, _, hv => nomatch hv
  | x :: xs, h, v, hv => by
    simp only [allOne] at h
    cases hx : oneCell x with
    | false => rw [hx] at h; cases h
    | true =>
      rw [hx, cond_true] at h
      rcases List.mem_cons.1 hv with rfl | hv
      · exact hx
      · exact allOne_mem h v hv

section stores
variable {C : Ctx} {ρ : Env} {p : Nat → Prop} {tm : PT AV} {sz : Nat} {a : Act} {hp : Heap} {w : World} {P : Program}

theorem Step.stored (hf : ρ.fine) (hi : Inv C ρ p hp w) {b : Nat} {cs cs' vs : List AV} {e : Nat} {ex : Bool} {u : Nat} (hb : hp.get b = some (.cells cs e ex true u)) {o : Nat}
    (hl : layOver cs o vs = some cs') (h1 : allOne vs = true) (hv : ∀ v ∈ vs, v.ok ρ p) :
    ∃ w', (storeCells ⟨ρ.blk b, ρ.base b + o, none⟩ (concs ρ vs).toArray.toList).run P w = .ok () w' ∧ Step C ρ p hp w ρ p (hp.set b (some (.cells cs' e ex true u))) w' ∧
      ∃ c' fr, w'.heap[ρ.blk b]? = some (.cells c' e fr) ∧ CellsRel ρ b cs' ex true u c' fr ∧ ∀ b' : Nat, b' ≠ ρ.blk b → w'.heap[b']? = w.heap[b']? := by
  obtain ⟨c, fr, g1, g2, g3, _⟩ := hi.cells hb
  obtain ⟨l1, l2, l3⟩ := layOver_some hl
  have hok : ∀ v ∈ cs', v.ok ρ p := fun v h => (layOver_mem hl h).elim (g3 v) (hv v)
  by_cases hvs : vs = []
  · subst hvs
    simp only [layOver, Option.some.injEq] at hl
    subst hl
    refine ⟨w, rfl, Step.update hi hb rfl (fun _ _ => rfl) g1 ⟨_, _, rfl, g2⟩ g3 (.refl _), c, fr, g1, g2, fun _ _ => rfl⟩
  · have hlen : (concs ρ vs).length = vs.length := by simp [concs_eq]
    have hle := l2 hvs
    have hpos : 0 < vs.length := List.length_pos_iff.2 hvs
    have hlast : ρ.base b + (o + vs.length - 1) < c.size := by
      have hlt : o + vs.length - 1 < cs.length := by omega
      exact (Array.getElem?_eq_some_iff.1 (g2.cell _ _ (List.getElem?_eq_getElem hlt))).1
    obtain ⟨c', q1, q2, q3, q4, q5, q6⟩ := setCells_heap (concs ρ vs) (ρ.base b + o) w c e fr g1 (by rw [hlen]; omega)
    have hrun := run_storeCells_cells (P := P) (ρ.blk b) (ρ.base b + o) (concs ρ vs) 0 w
      (fun j hj => by
        rw [Nat.add_zero, cell_at g1]
        rw [hlen] at hj
        rw [Array.getElem?_eq_getElem (by omega)]
        rfl)
      (fun j hj => by
        rw [hlen] at hj
        have := g2.free rfl (ρ.base b + o + j) (by omega)
        simp only [World.frozen?, Nat.add_zero, g1]
        simp only [Bool.and_eq_false_imp, decide_eq_true_eq, decide_eq_false_iff_not]
        omega)
      (fun v hvm => by
        rw [concs_eq, List.mem_map] at hvm
        obtain ⟨x, hx, rfl⟩ := hvm
        exact one_conc hf (allOne_mem h1 x hx))
    rw [Nat.add_zero] at hrun
    have hrel : CellsRel ρ b cs' ex true u c' fr := by
      refine ⟨fun i v hiv => ?_, fun h => ?_, fun h => ?_, fun h off hoff => ?_⟩
      · rw [l3 i] at hiv
        rw [q3, hlen]
        split at hiv
        · rename_i hj
          rw [if_pos (by omega), show ρ.base b + i - (ρ.base b + o) = i - o from by omega, concs_get, hiv]
          rfl
        · rename_i hj
          rw [if_neg (by omega)]
          exact g2.cell i v hiv
      · obtain ⟨x1, x2⟩ := g2.exact h
        exact ⟨x1, by rw [q2, x2, l1]⟩
      · rw [q2]; exact g2.opened h
      · rw [q2] at hoff; exact g2.free h off hoff
    exact ⟨_, hrun, Step.update hi hb q4 q5 q1 ⟨_, _, rfl, hrel⟩ hok q6, c', fr, q1, hrel, q5⟩

theorem storeA_sound (hC : C.Ok) (hf : ρ.fine) (hi : Inv C ρ p hp w) {t : Nat} {x v : AV} {hp' : Heap} (h : storeA C.T t x v hp = some hp') (hv : v.ok ρ p) :
    ∃ w', (Instr.storeAt t (x.conc ρ) (v.conc ρ)).run C.P w = .ok () w' ∧ Step C ρ p hp w ρ p hp' w' := by
  unfold storeA at h
  split at h
  · cases h
  rename_i i hti
  have hT := hC.ty _ _ hti
  split at h
  rotate_left
  · cases h
  rename_i b o
  split at h
  rotate_left
  · cases h
  rename_i cs e ex u hb
  simp only at h
  cases hc : (Nat.beq (cellsOf v).length i.size && allOne (cellsOf v)) with
  | false => rw [hc] at h; cases h
  | true =>
    rw [hc, cond_true] at h
    simp only [Bool.and_eq_true, Nat.beq_eq] at hc
    split at h
    · cases h
    rename_i cs' hl
    simp only [setObj, PT.setK_eq, Option.some.injEq] at h
    subst h
    obtain ⟨w', s1, s2, _⟩ := Step.stored (P := C.P) hf hi hb hl hc.2 (cellsOf_ok hv)
    refine ⟨w', ?_, s2⟩
    have hsz : ¬ ((concs ρ (cellsOf v)).toArray.size ≠ i.size) := by simp [concs_eq, hc.1]
    simp only [Instr.storeAt, AV.conc, Instr.sureAddr, Sem.run_bind, Sem.run_pure, Result.andThen_ok, storeVar, hT.run_size, cells_conc hf, if_neg hsz, s1]

theorem heapV_some {v : AV} {nx : Nat} {o : Option Heap} {r : OpR} (h : heapV v nx o = some r) : ∃ hp, o = some hp ∧ r = .heap v hp nx := by
  cases o with
  | none => cases h
  | some hp => simp only [heapV, Option.some.injEq] at h; exact ⟨hp, rfl, h.symm⟩

theorem aStore_sound (hC : C.Ok) (hf : ρ.fine) (hi : Inv C ρ p hp w) (htm : Tm ρ p tm sz a.tmps) {nx t : Nat} {x y : Operand} {r : OpR} (h : aStore C.T tm hp nx t x y = some r) :
    ∃ hp' w', r = .heap .undef hp' nx ∧ (Instr.storeAt t (a.eval x) (a.eval y)).run C.P w = .ok () w' ∧ Step C ρ p hp w ρ p hp' w' := by
  unfold aStore at h
  split at h
  · cases h
  rename_i xv hx
  split at h
  · cases h
  rename_i yv hy
  obtain ⟨hp', h1, rfl⟩ := heapV_some h
  obtain ⟨e1, _⟩ := evalO_some htm hx
  obtain ⟨e2, e3⟩ := evalO_some htm hy
  obtain ⟨w', s1, s2⟩ := storeA_sound hC hf hi h1 e3
  exact ⟨hp', w', rfl, by rw [e1, e2]; exact s1, s2⟩

/-! ### Objects turned -/
theorem Step.setObj (hi : Inv C ρ p hp w) {b : Nat} {o₀ ob : AObj} {o₁ o : Obj} (h0 : hp.get b = some o₀) (hw : w.heap[ρ.blk b]? = some o₁) (hn : ∀ c e f, o₁ ≠ .cells c e f)
    (hr : ObjRel ρ b ob o) (hok : ob.ok ρ p) :
    ∃ w', (Go.setObj (ρ.blk b) o).run P w = .ok () w' ∧ Step C ρ p hp w ρ p (hp.set b (some ob)) w' ∧ w'.heap[ρ.blk b]? = some o := by
  have hlt := (Array.getElem?_eq_some_iff.1 hw).1
  refine ⟨{ w with heap := w.heap.setIfInBounds (ρ.blk b) o }, ?_, ?_, ?_⟩
  · simp only [Go.setObj, Sem.run, hw]
  · refine Step.update hi h0 (by simp) (fun b' hb' => ?_) (o' := o) (by simp [hlt]) hr hok ⟨rfl, rfl, rfl⟩
    show (w.heap.setIfInBounds (ρ.blk b) o)[b']? = _
    rw [Array.getElem?_setIfInBounds_ne (fun x => hb' x.symm)]
  · simp [hlt]

theorem sameBits_refl {k : AV} {d : TypeDesc} (h : (d = .string ∧ ∃ s, k = .str s) ∨ (∃ j, d = .int j ∧ ∃ k' n, k = .int k' n) ∨ (d = .bool ∧ ∃ b, k = .bool b)) (n : Nat) :
    Instr.sameBits (n + 1) (k.conc ρ) (k.conc ρ) = true := by
  rcases h with ⟨_, s, rfl⟩ | ⟨_, _, k', m, rfl⟩ | ⟨_, b, rfl⟩
  · simp only [AV.conc, Instr.sameBits, bytes_beq, eqL_eq, BEq.rfl]
  · simp [AV.conc, Instr.sameBits]
  · simp [AV.conc, Instr.sameBits]

theorem setVal_eq : ∀ (es : List (AV × AV × Nat)) (i : Nat) (k v : AV), (setVal es i k v).map (entryOf ρ) = (es.map (entryOf ρ)).modify i (fun e => { e with key := k.conc ρ, val := v.conc ρ })
  | [], i, k, v => by simp [setVal]
  | (k0, v0, n) :: es, 0, k, v => by simp [setVal, entryOf]
  | (k0, v0, n) :: es, i + 1, k, v => by simp [setVal, setVal_eq es i k v]

theorem setVal_mem : ∀ {es : List (AV × AV × Nat)} {i : Nat} {k v : AV} {e : AV × AV × Nat}, e ∈ setVal es i k v → e ∈ es ∨ (e.1 = k ∧ e.2.1 = v)
  | [], _, _, _, _, h => nomatch h
  | (k0, v0, n) :: es, 0, k, v, e, h => by
    simp only [setVal, List.mem_cons] at h
    rcases h with rfl | h
    · exact .inr ⟨rfl, rfl⟩
    · exact .inl (List.mem_cons_of_mem _ h)
  | (k0, v0, n) :: es, i + 1, k, v, e, h => by
    simp only [setVal, List.mem_cons] at h
    rcases h with rfl | h
    · exact .inl (List.mem_cons_self ..)
    · exact (setVal_mem h).imp (List.mem_cons_of_mem _) id

theorem dropAt_eq : ∀ (es : List (AV × AV × Nat)) (i : Nat), dropAt es i = es.eraseIdx i
  | [], i => by simp [dropAt]
  | e :: es, 0 => rfl
  | e :: es, i + 1 => by simp [dropAt, dropAt_eq es i]

theorem aMapUpdate_sound (hC : C.Ok) (hi : Inv C ρ p hp w) (htm : Tm ρ p tm sz a.tmps) {nx t : Nat} {m k x : Operand} {r : OpR} (h : aMapUpdate C.T tm hp nx t m k x = some r) :
    ∃ hp' w', r = .heap .undef hp' nx ∧ (Instr.mapUpdate t (a.eval m) (a.eval k) (a.eval x)).run C.P w = .ok () w' ∧ Step C ρ p hp w ρ p hp' w' := by
  unfold aMapUpdate at h
  split at h
  · cases h
  rename_i i hti
  obtain ⟨d, hd, hrel⟩ := (hC.ty _ _ hti).desc
  split at h
  rotate_left
  · cases h
  rename_i kt et hdesc
  rw [hdesc] at hrel
  cases (show d = .map kt et from hrel)
  split at h
  rotate_left
  · cases h
  rename_i b hm
  split at h
  rotate_left
  · cases h
  rename_i es clock hb
  split at h
  · cases h
  rename_i kv hk
  split at h
  · cases h
  rename_i v hx
  cases hko : keyOk C.T kt kv with
  | false => rw [hko] at h; cases h
  | true =>
    rw [hko, cond_true] at h
    obtain ⟨dk, hdk, hkk⟩ := keyOk_some hC hko
    split at h
    · cases h
    rename_i ob hob
    obtain ⟨hp', h1, rfl⟩ := heapV_some h
    simp only [setObj, PT.setK_eq, Option.some.injEq] at h1
    subst h1
    obtain ⟨e1, _⟩ := evalO_some htm hm
    obtain ⟨e2, e2'⟩ := evalO_some htm hk
    obtain ⟨e3, e3'⟩ := evalO_some htm hx
    obtain ⟨g1, g2, _⟩ := hi.map hb
    have hck : ∀ b, (Instr.checkKey b 10000 kt (kv.conc ρ)).run C.P w = .ok () w := fun b => run_checkKey hdk hkk 9999
    have hget := run_getObj (P := C.P) g1 (by simp)
    unfold updateA at hob
    split at hob
    · cases hob
    · rename_i j v' hf
      simp only [Option.some.injEq] at hob
      subst hob
      have hfk := run_findKey (P := C.P) (w := w) (ρ := ρ) hdk hkk hf
      obtain ⟨e', he', _, hv', hkey⟩ := (findNow_findA (ρ := ρ) hkk hf).2 _ rfl
      rw [Nat.sub_zero] at he'
      have hold : (((es.map (entryOf ρ)).toArray[j]?).map (·.key)).getD (kv.conc ρ) = kv.conc ρ := by
        have he'' : es[j]? = some e' := he'
        simp [he'', entryOf, hkey]
      have hstay : (Instr.keyThatStays (kv.conc ρ) (kv.conc ρ)).run C.P w = .ok (kv.conc ρ) w := by
        simp only [Instr.keyThatStays]
        rw [if_pos (sameBits_refl hkk 9999)]
        rfl
      obtain ⟨w', s1, s2, _⟩ := Step.setObj (P := C.P) (ob := .map (setVal es j kv v) clock) hi hb g1 (by simp) rfl (fun e he => (setVal_mem he).elim (g2 e) fun ⟨x, y⟩ => ⟨x ▸ e2', y ▸ e3'⟩)
      refine ⟨_, w', rfl, ?_, s2⟩
      rw [setVal_eq] at s1
      unfold Instr.mapUpdate
      rw [e1, e2, e3]
      simp only [Sem.run_bind, run_underlying' hd, Result.andThen_ok, AV.conc, hget, hck, hfk, Option.map_some, hold, hstay]
      rw [← s1]
      simp
    · rename_i hf
      simp only [appK_eq, natK_eq, Option.some.injEq] at hob
      subst hob
      have hfk := run_findKey (P := C.P) (w := w) (ρ := ρ) hdk hkk hf
      obtain ⟨w', s1, s2, _⟩ := Step.setObj (P := C.P) (ob := .map (es ++ [(kv, v, clock)]) (clock + 1)) hi hb g1 (by simp) rfl (fun e he => by
        rcases List.mem_append.1 he with h | h
        · exact g2 e h
        · rw [List.mem_singleton] at h; subst h; exact ⟨e2', e3'⟩)
      refine ⟨_, w', rfl, ?_, s2⟩
      unfold Instr.mapUpdate
      rw [e1, e2, e3]
      simp only [Sem.run_bind, run_underlying' hd, Result.andThen_ok, AV.conc, hget, hck, hfk, Option.map_none]
      rw [← s1]
      simp [entryOf]

theorem setIf_same {α : Type} {xs : Array α} {i : Nat} {x : α} (h : xs[i]? = some x) : xs.setIfInBounds i x = xs := by
  obtain ⟨h1, h2⟩ := Array.getElem?_eq_some_iff.1 h
  apply Array.ext
  · simp
  · intro j h3 h4
    simp only [Array.getElem_setIfInBounds h4]
    split
    · rename_i e; subst e; exact h2.symm
    · rfl

theorem map_erase {α β : Type} (f : α → β) : ∀ (l : List α) (j : Nat), (l.map f).eraseIdx j = (l.eraseIdx j).map f
  | [], j => by simp
  | x :: xs, 0 => rfl
  | x :: xs, j + 1 => by simp [map_erase f xs j]

theorem aDelete_sound (hC : C.Ok) (hi : Inv C ρ p hp w) (htm : Tm ρ p tm sz a.tmps) {nx t ty : Nat} {args : Array Operand} {ts : Array Nat} (ht : ts[0]? = some t) {r : OpR} (h : aDelete C.T tm hp nx t args.toList = some r) :
    ∃ hp' w', r = .heap .undef hp' nx ∧ (Builtin.delete_ ts ty (args.map a.eval)).run C.P w = .ok undef w' ∧ Step C ρ p hp w ρ p hp' w' := by
  unfold aDelete at h
  split at h
  rotate_left
  · cases h
  rename_i b k hargs
  obtain ⟨e1, e2⟩ := args_list htm hargs
  split at h
  · cases h
  rename_i i hti
  obtain ⟨d, hd, hrel⟩ := (hC.ty _ _ hti).desc
  split at h
  rotate_left
  · cases h
  rename_i kt et hdesc
  rw [hdesc] at hrel
  cases (show d = .map kt et from hrel)
  cases hko : keyOk C.T kt k with
  | false => rw [hko] at h; cases h
  | true =>
    rw [hko, cond_true] at h
    obtain ⟨dk, hdk, hkk⟩ := keyOk_some hC hko
    split at h
    rotate_left
    · cases h
    rename_i es clock hb
    obtain ⟨g1, g2, _⟩ := hi.map hb
    have hck : ∀ b, (Instr.checkKey b 10000 kt (k.conc ρ)).run C.P w = .ok () w := fun b => run_checkKey hdk hkk 9999
    have hget := run_getObj (P := C.P) g1 (by simp)
    have ha0 : (args.map a.eval)[0]? = some (.map (some (ρ.blk b))) := by rw [e1]; rfl
    have ha1 : (args.map a.eval)[1]? = some (k.conc ρ) := by rw [e1]; rfl
    unfold Builtin.delete_
    simp only [ht, ha0, ha1]
    split at h
    · cases h
    · rename_i hf
      simp only [Option.some.injEq] at h
      subst h
      have hfk := run_findKey (P := C.P) (w := w) (ρ := ρ) hdk hkk hf
      refine ⟨hp, w, rfl, ?_, .refl hi rfl (.refl _) fun _ x => x⟩
      simp only [Sem.run_bind, run_underlying' hd, Result.andThen_ok, hget, hck, hfk, Option.map_none, Go.setObj, Sem.run, g1, setIf_same g1, Sem.run_pure]
      rfl
    · rename_i j v' hf
      obtain ⟨hp', h1, rfl⟩ := heapV_some h
      simp only [setObj, PT.setK_eq, Option.some.injEq] at h1
      subst h1
      have hfk := run_findKey (P := C.P) (w := w) (ρ := ρ) hdk hkk hf
      obtain ⟨w', s1, s2, _⟩ := Step.setObj (P := C.P) (ob := .map (dropAt es j) clock) hi hb g1 (by simp) rfl (fun e he => g2 e (by rw [dropAt_eq] at he; exact List.mem_of_mem_eraseIdx he))
      refine ⟨_, w', rfl, ?_, s2⟩
      have hmod : ((es.map (entryOf ρ)).toArray.eraseIdxIfInBounds j) = ((dropAt es j).map (entryOf ρ)).toArray := by
        rw [dropAt_eq, ← Array.toList_inj]
        simp [map_erase]
      simp only [Sem.run_bind, run_underlying' hd, Result.andThen_ok, hget, hck, hfk, Option.map_some, hmod, s1, Sem.run_pure]
      rfl

theorem aNext_sound (hi : Inv C ρ p hp w) (htm : Tm ρ p tm sz a.tmps) {nx ty : Nat} {it : Operand} {r : OpR} (h : aNext tm hp nx it = some r) :
    ∃ v hp' w', r = .heap v hp' nx ∧ (Instr.next (a.eval it) true ty).run C.P w = .ok (v.conc ρ) w' ∧ v.ok ρ p ∧ Step C ρ p hp w ρ p hp' w' := by
  unfold aNext at h
  split at h
  rotate_left
  · cases h
  rename_i b hx
  split at h
  rotate_left
  · cases h
  rename_i s pos hb
  obtain ⟨_, _, o', g1, g2, rfl⟩ := hi.sat _ _ hb
  obtain ⟨e1, _⟩ := evalO_some htm hx
  have hget := run_getObj (P := C.P) g1 (by simp)
  rw [nth_eq] at h
  unfold Instr.next
  rw [e1]
  simp only [AV.conc, g2, Nat.add_zero, Sem.run_bind, hget, Result.andThen_ok]
  split at h
  · rename_i hs
    simp only [Option.some.injEq] at h
    subst h
    refine ⟨_, _, w, rfl, ?_, ⟨trivial, trivial⟩, .refl hi rfl (.refl _) fun _ x => x⟩
    have : ¬ pos < (bytesOf s).size := by rw [bytesOf_size]; exact Nat.not_lt.2 (List.getElem?_eq_none_iff.1 hs)
    rw [if_neg this]
    rfl
  · rename_i c hs
    cases hc : Nat.blt (c % 256) 128 with
    | false => rw [hc] at h; cases h
    | true =>
      rw [hc, cond_true, natK_eq] at h
      rw [Nat.blt_eq] at hc
      obtain ⟨hp', h1, rfl⟩ := heapV_some h
      simp only [setObj, PT.setK_eq, Option.some.injEq] at h1
      subst h1
      have hlt : pos < (bytesOf s).size := by rw [bytesOf_size]; exact (List.getElem?_eq_some_iff.1 hs).1
      have hbyte : (bytesOf s)[pos] = UInt8.ofNat c := by
        have := bytesOf_get s pos
        rw [hs, getElem?_pos (bytesOf s) pos hlt] at this
        simpa using this
      have hdec : Utf8.decode (bytesOf s) pos = (c % 256, 1) := by
        rw [decode_ascii (bytesOf s) pos hlt (by rw [hbyte]; simpa using hc), hbyte]
        simp
      obtain ⟨w', s1, s2, _⟩ := Step.setObj (P := C.P) (ob := .siter s (pos + 1)) hi hb g1 (by simp) ⟨g2, rfl⟩ trivial
      refine ⟨_, _, w', rfl, ?_, ⟨trivial, trivial, trivial, trivial⟩, s2⟩
      rw [if_pos hlt, hdec]
      simp only [Sem.run_bind, s1, Result.andThen_ok, Sem.run_pure]
      rfl

end stores
end Go.Ev
