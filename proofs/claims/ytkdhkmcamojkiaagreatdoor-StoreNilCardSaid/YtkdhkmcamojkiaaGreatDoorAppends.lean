/- 'append', 'copy', String over bytes. -/
import Derived.Test.YtkdhkmcamojkiaaGreatDoorStores
import Derived.Laws.Append
namespace Go.Ev

section appends
variable {C : Ctx} {ρ : Env} {p : Nat → Prop} {tm : PT AV} {sz : Nat} {a : Act} {hp : Heap} {w : World} {P : Program}

theorem lenOf_sound {x : AV} {n : Nat} (h : lenOf x = some n) : (Builtin.lenOf (x.conc ρ)).run P w = .ok n w := by
  cases x <;> simp only [lenOf, reduceCtorEq, Option.some.injEq] at h <;> subst h
  · simp [AV.conc, Builtin.lenOf, bytesOf_size, lenL_eq]
  · simp [AV.conc, Builtin.lenOf]
  · simp [AV.conc, Builtin.lenOf]
  · simp [AV.conc, Builtin.lenOf]

theorem cut_sound (hi : Inv C ρ p hp w) {b o n : Nat} {l : List AV} (h : cut hp b o n id = some l) :
    (∀ w' : World, w'.heap = w.heap → (loadCells ⟨ρ.blk b, ρ.base b + o, none⟩ n).run P w' = .ok (concs ρ l).toArray w') ∧ (∀ v ∈ l, v.ok ρ p) ∧ l.length = n := by
  unfold cut at h
  split at h
  · cases h
  rename_i cs hcs
  simp only [takeK_eq, dropN_eq, id] at h
  unfold cellsAt at hcs
  split at hcs
  · rename_i cs0 e ex wr u hb
    simp only [Option.some.injEq] at hcs
    subst hcs
    obtain ⟨cs', fr, h1, h2, h3, _⟩ := hi.cells hb
    obtain ⟨q1, q2⟩ := takeL_some h
    refine ⟨fun w' hw => run_cells (by rw [hw]; exact h1) h2.cell h, fun v hv => ?_, ?_⟩
    · rw [q2] at hv
      exact h3 v (List.mem_of_mem_drop (List.mem_of_mem_take hv))
    · rw [q2, List.length_take]; omega
  · cases hcs

theorem srcCells_sound (hi : Inv C ρ p hp w) {size n : Nat} {x : AV} {new : List AV} (h : srcCells size n x hp = some new) :
    (∀ w' : World, w'.heap = w.heap → (Builtin.firstCells size n (x.conc ρ)).run P w' = .ok (concs ρ new).toArray w') ∧ (∀ v ∈ new, v.ok ρ p) ∧ new.length = n * size := by
  unfold srcCells at h
  split at h
  · cases hn : Nat.beq n 0 with
    | false => rw [hn] at h; cases h
    | true =>
      rw [hn, cond_true] at h
      have := Nat.eq_of_beq_eq_true hn
      simp only [Option.some.injEq] at h
      subst h
      subst this
      exact ⟨fun w' _ => rfl, by simp, by simp⟩
  · rename_i b o len cap
    exact cut_sound (P := P) hi h
  · rename_i s
    cases hs1 : Nat.beq size 1 with
    | false => rw [hs1] at h; cases h
    | true =>
      rw [hs1, cond_true, takeK_eq] at h
      have := Nat.eq_of_beq_eq_true hs1
      subst this
      split at h
      · cases h
      rename_i l hl
      simp only [Option.some.injEq] at h
      subst h
      obtain ⟨q1, rfl⟩ := takeL_some hl
      refine ⟨fun w' _ => ?_, ?_, ?_⟩
      · simp only [Builtin.firstCells, AV.conc, bytesOf_extract, Sem.run_pure]
        congr 1
        rw [List.drop_zero, Nat.sub_zero, concs_eq, ← Array.toList_inj]
        simp only [bytesOf, List.map_toArray, List.map_map]
        apply List.map_congr_left
        intro c _
        simp [AV.conc]
      · intro v hv
        simp only [List.mem_map] at hv
        obtain ⟨c, _, rfl⟩ := hv
        trivial
      · rw [List.length_map, List.length_take]; omega
  · cases h

/-- What is appended is of a slice's or a string's type. -/
def Appended (P : Program) (ts : Array Nat) : Prop := ts[1]? = none ∨ ∃ xt d, ts[1]? = some xt ∧ P.underlying xt = some d ∧ (d = .string ∨ ∃ e, d = .slice e)

theorem noMake_sound (hC : C.Ok) {ts : Array Nat} {t : Nat} {more' : List Nat} (hts : ts.toList = t :: more') (h : noMake C.T more' = true) : Appended C.P ts ∧ ts[0]? = some t := by
  have h0 : ts[0]? = some t := by rw [← Array.getElem?_toList, hts]; rfl
  refine ⟨?_, h0⟩
  cases more' with
  | nil => exact .inl (by rw [← Array.getElem?_toList, hts]; rfl)
  | cons x xs =>
    simp only [noMake] at h
    split at h
    · cases h
    rename_i i hti
    obtain ⟨d, hd, hrel⟩ := (hC.ty _ _ hti).desc
    refine .inr ⟨x, d, by rw [← Array.getElem?_toList, hts]; rfl, hd, ?_⟩
    split at h
    · rename_i hdesc; rw [hdesc] at hrel; exact .inr ⟨_, hrel⟩
    · rename_i hdesc; rw [hdesc] at hrel; exact .inl hrel
    · cases h

section model
variable {ts : Array Nat} {t ty e : Nat} {j : TyI} {args : Array Value} {base : Option Addr} {sLen sCap n : Nat} {x : Value} {new old : Array Value}

theorem run_append_in {w' : World} (h0 : ts[0]? = some t) (hz : Appended P ts) (hd : P.underlying t = some (.slice e)) (hT : TyOk P e j) (ha0 : args[0]? = some (.slice base sLen sCap)) (ha1 : args[1]? = some x)
    (hn : (Builtin.lenOf x).run P w = .ok n w) (hx : (Builtin.firstCells j.size n x).run P w = .ok new w) (hroom : sLen + n ≤ sCap)
    (hst : ∀ ad, base = some ad → (storeCells (ad.add (sLen * j.size)) new.toList).run P w = .ok () w') (hno : base = none → w' = w) :
    (Builtin.append_ ts ty args).run P w = .ok (.slice base (sLen + n) sCap) w' := by
  unfold Builtin.append_
  simp only [h0, ha0, ha1, Sem.run_bind, run_underlying' hd, Result.andThen_ok, hT.run_size]
  rcases hz with h1 | ⟨xt, d, h1, hu, rfl | ⟨e', rfl⟩⟩ <;> cases base
  all_goals first
    | (simp only [h1, Sem.run_bind, run_underlying' hu, Sem.run_pure, Result.andThen_ok, Bool.false_eq_true, if_false, hn, if_pos hroom, Bool.not_false, if_true, hx, hno rfl]; done)
    | (simp only [h1, Sem.run_bind, run_underlying' hu, Sem.run_pure, Result.andThen_ok, Bool.false_eq_true, if_false, hn, if_pos hroom, Bool.not_false, if_true, hx, hst _ rfl]; done)
    | (simp only [h1, Sem.run_bind, Sem.run_pure, Result.andThen_ok, Bool.false_eq_true, if_false, hn, if_pos hroom, Bool.not_false, if_true, hx, hno rfl]; done)
    | (simp only [h1, Sem.run_bind, Sem.run_pure, Result.andThen_ok, Bool.false_eq_true, if_false, hn, if_pos hroom, Bool.not_false, if_true, hx, hst _ rfl]; done)

def noEnv : Env := ⟨fun _ => 0, fun _ => 0, fun _ => 0, fun _ => undef⟩

theorem run_append_out (h0 : ts[0]? = some t) (hz : Appended P ts) (hd : P.underlying t = some (.slice e)) (hT : TyOk P e j) (ha0 : args[0]? = some (.slice base sLen sCap)) (ha1 : args[1]? = some x)
    (hn : (Builtin.lenOf x).run P w = .ok n w) (hx : (Builtin.firstCells j.size n x).run P w.drew = .ok new w.drew) (hroom : ¬ sLen + n ≤ sCap)
    (hsm : small (sLen + n) j.bytes = true) (ho : (Builtin.firstCells j.size sLen (.slice base sLen sCap)).run P w.drew = .ok old w.drew) :
    ∃ rest : Array Value, rest.size = (grownCap w (sLen + n) sCap e - (sLen + n)) * j.size ∧
      (Builtin.append_ ts ty args).run P w = .ok (.slice (some ⟨w.heap.size, 0, none⟩) (sLen + n) (grownCap w (sLen + n) sCap e)) { w.drew with heap := w.drew.heap.push (.cells (old ++ new ++ rest) e) } := by
  simp only [small, Bool.and_eq_true, Nat.ble_eq] at hsm
  obtain ⟨inf, i1, i2, i3, _⟩ := hT.run_info (w := w)
  obtain ⟨inf', i1', _, i3', _⟩ := hT.run_info (w := w.drew)
  have h63 : ¬ (((sLen + n : Nat) : Int) > IntKind.i64.max) := by
    have : IntKind.i64.max = 9223372036854775807 := rfl
    rw [this]; omega
  have hfit : ¬ (Builtin.nextslicecap (sLen + n) sCap * inf.bytes > 2 ^ 48) := by
    rw [i3]
    have := growslice_fits (need := sLen + n) (old := sCap) (bytes := j.bytes) (by omega) (by omega)
    omega
  have hlen := hT.len
  have hzl : ((zeroOf j).conc noEnv).cells.size = j.size := by rw [hT.zero_cells]; simp [concs_eq, hlen]
  refine ⟨Builtin.zeroCells ((zeroOf j).conc noEnv).cells (grownCap w (sLen + n) sCap e - (sLen + n)), ?_, ?_⟩
  · simp only [Builtin.zeroCells, Array.size_map, Array.size_range, hzl]
  unfold Builtin.append_
  have hforced : (Question.appendCap (sLen + n) sCap e).forced = false := rfl
  have hch : (choose (Question.appendCap (sLen + n) sCap e)).run P w = .ok (grownCap w (sLen + n) sCap e) w.drew := by
    rw [run_choose, hforced]; rfl
  simp only [h0, ha0, ha1, Sem.run_bind, run_underlying' hd, Result.andThen_ok, hT.run_size]
  rcases hz with h1 | ⟨xt, d, h1, hu, rfl | ⟨e', rfl⟩⟩
  · simp only [h1, Sem.run_pure, Result.andThen_ok, Bool.false_eq_true, if_false, hn, if_neg hroom, Bool.not_false, if_true, i1, h63, false_and, if_neg hfit, hch, i1', run_askRoom, ho, hx, hT.run_zero noEnv, Sem.run_bind, Go.newRow, run_newObj]
    rfl
  · simp only [h1, run_underlying' hu, Sem.run_pure, Result.andThen_ok, Bool.false_eq_true, if_false, hn, if_neg hroom, Bool.not_false, if_true, i1, h63, false_and, if_neg hfit, hch, i1', run_askRoom, ho, hx, hT.run_zero noEnv, Sem.run_bind, Go.newRow, run_newObj]
    rfl
  · simp only [h1, run_underlying' hu, Sem.run_pure, Result.andThen_ok, Bool.false_eq_true, if_false, hn, if_neg hroom, Bool.not_false, if_true, i1, h63, false_and, if_neg hfit, hch, i1', run_askRoom, ho, hx, hT.run_zero noEnv, Sem.run_bind, Go.newRow, run_newObj]
    rfl
end model

/-- An abstract block is known no more. -/
theorem Step.drop (hi : Inv C ρ p hp w) (b : Nat) : Step C ρ p hp w ρ p (hp.set b none) w := by
  have get : ∀ {i x}, (hp.set b none).get i = some x → hp.get i = some x := fun {i x} h => by
    by_cases e : i = b
    · subst e; rw [PT.get_set_same] at h; cases h
    · rw [PT.get_set_ne _ _ e] at h; exact h
  exact ⟨⟨fun i x hx => hi.sat i x (get hx), fun i i' x x' hx hx' => hi.inj i i' x x' (get hx) (get hx'), fun i x hx => hi.own i x (get hx), hi.old, hi.size, hi.atom⟩,
    .refl _ _, fun _ x => x, Nat.le_refl _, fun _ _ _ => rfl, fun i x hx => .inr ⟨i, x, get hx, rfl⟩, .refl _⟩

/-- A grown row. -/
theorem Step.grown (hi : Inv C ρ p hp w) {nx : Nat} (hn : ¬ p nx) {cs : List AV} {e size n cap : Nat} {rest : Array Value} (hok : ∀ v ∈ cs, v.ok ρ p) (hlen : cs.length = n * size) (hcap : n ≤ cap) (hrest : rest.size = (cap - n) * size) :
    Step C ρ p hp w (ρ.with nx w.heap.size 0 cap) (more p nx (nx + 1)) (hp.set nx (some (.cells cs e false true size))) { w.drew with heap := w.drew.heap.push (.cells ((concs ρ cs).toArray ++ rest) e) } := by
  have ha := Env.with_agree (p := p) (ρ := ρ) hn w.heap.size 0 cap
  refine Step.alloc' (w₁ := w.drew) hi hn rfl ⟨rfl, rfl, rfl⟩ ⟨_, _, rfl, ⟨fun i v hv => ?_, (fun h => nomatch h), fun _ => ?_, fun _ off _ h => ?_⟩⟩ (fun v hv => AV.ok_mono ha (fun _ => more_left) v (hok v hv))
  · have hlt : i < cs.length := (List.getElem?_eq_some_iff.1 hv).1
    rw [Env.with_base, Nat.zero_add, AV.conc_congr ha v (hok v (List.mem_of_getElem? hv)), Array.getElem?_append_left (by simpa [concs_eq] using hlt), List.getElem?_toArray, concs_get, hv]
    rfl
  · rw [Env.with_base, Env.with_cap, Array.size_append, hrest]
    have : (concs ρ cs).toArray.size = n * size := by simp [concs_eq, hlen]
    rw [this, Nat.zero_add, ← Nat.add_mul]
    congr 1
    omega
  · simp only at h
    omega

theorem newRow_some {hp : Heap} {nx e size n : Nat} {cs : List AV} {r : OpR} (h : newRow hp nx e size n cs = some r) :
    r = .heap (.slc nx 0 n (.upto nx 0)) (hp.set nx (some (.cells cs e false true size))) (nx + 1) := by
  simp only [newRow, natK_eq] at h
  obtain ⟨hp', h1, rfl⟩ := heapV_some h
  simp only [setObj, PT.setK_eq, Option.some.injEq] at h1
  rw [h1]

theorem cap_le (w : World) (need old e : Nat) : need ≤ grownCap w need old e := by
  simp only [grownCap, Question.cut]; omega

theorem appendA_sound (hf : ρ.fine) (hi : Inv C ρ p hp w) {nx : Nat} (hn : ¬ p nx) {ts : Array Nat} {t ty e : Nat} {j : TyI} {args : Array Value}
    (h0 : ts[0]? = some t) (hz : Appended C.P ts) (hd : C.P.underlying t = some (.slice e)) (hT : TyOk C.P e j) {s x : AV} (ha0 : args[0]? = some (s.conc ρ)) (ha1 : args[1]? = some (x.conc ρ))
    (hs : s.ok ρ p) {m : Nat} (hm : lenOf x = some m) {new : List AV} (hnew : srcCells j.size m x hp = some new) {r : OpR} (h : appendA hp nx e j s m new = some r) :
    ∃ v hp' nx' ρ' w', r = .heap v hp' nx' ∧ nx ≤ nx' ∧ (Builtin.append_ ts ty args).run C.P w = .ok (v.conc ρ') w' ∧ v.ok ρ' (more p nx nx') ∧ Step C ρ p hp w ρ' (more p nx nx') hp' w' := by
  obtain ⟨n1, n2, n3⟩ := srcCells_sound (P := C.P) hi hnew
  have hl := lenOf_sound (ρ := ρ) (P := C.P) (w := w) hm
  have same : ∀ {v : AV} {hp' : Heap} {w' : World}, v.ok ρ p → Step C ρ p hp w ρ p hp' w' → v.ok ρ (more p nx nx) ∧ Step C ρ p hp w ρ (more p nx nx) hp' w' :=
    fun h1 h2 => ⟨AV.ok_mono (.refl _ _) (fun _ => more_left) _ h1, h2.widen fun _ => more_left⟩
  unfold appendA at h
  split at h
  · split at h
    · simp only [Option.some.injEq] at h
      subst h
      obtain ⟨q1, q2⟩ := same (v := .nils) (hp' := hp) (w' := w) trivial (.refl hi rfl (.refl _) fun _ x => x)
      refine ⟨_, _, _, ρ, w, rfl, Nat.le_refl _, ?_, q1, q2⟩
      exact run_append_in (base := none) (sLen := 0) (sCap := 0) (w' := w) h0 hz hd hT ha0 ha1 hl (n1 w rfl) (Nat.le_refl _) (fun _ h => nomatch h) (fun _ => rfl)
    · rename_i m'
      cases hsm : small (m' + 1) j.bytes with
      | false => rw [hsm] at h; cases h
      | true =>
        rw [hsm, cond_true] at h
        have hr := newRow_some h
        subst hr
        obtain ⟨rest, r1, r2⟩ := run_append_out (ty := ty) (base := none) (sLen := 0) (sCap := 0) (old := #[]) h0 hz hd hT ha0 ha1 hl (n1 w.drew rfl) (by omega) (by rw [Nat.zero_add]; exact hsm) rfl
        rw [Nat.zero_add] at r1 r2
        refine ⟨_, _, _, _, _, rfl, Nat.le_succ _, ?_, ?_, Step.grown (rest := rest) hi hn n2 n3 (cap_le w (m' + 1) 0 e) r1⟩
        · rw [r2]
          simp only [AV.conc, ACap.conc, Env.with_blk, Env.with_base, Env.with_cap, Nat.add_zero, Nat.sub_zero, Array.empty_append]
        · exact ⟨more_one, more_one, by rw [Env.with_cap, Nat.zero_add]; exact cap_le _ _ _ _⟩
  · rename_i b o len cap
    obtain ⟨hpb, hcap⟩ := hs
    simp only [natK_eq] at h
    split at h
    rotate_left
    · cases h
    rename_i cs e' ex wr u hb
    obtain ⟨c, fr, g1, g2, g3, _⟩ := hi.cells hb
    cases hc : (Nat.beq e e' && small (len + m) j.bytes) with
    | false => rw [hc] at h; cases h
    | true =>
      rw [hc, cond_true] at h
      simp only [Bool.and_eq_true, Nat.beq_eq] at hc
      obtain ⟨rfl, hsm⟩ := hc
      have room : (len + m ≤ cap.conc ρ) → wr = true → allOne new = true → ∀ cs', layOver cs (o + len * j.size) new = some cs' →
          ∃ w', (Builtin.append_ ts ty args).run C.P w = .ok (.slice (some ⟨ρ.blk b, ρ.base b + o, none⟩) (len + m) (cap.conc ρ)) w' ∧ Step C ρ p hp w ρ p (hp.set b (some (.cells cs' e ex true u))) w' ∧
            ∃ c' fr, w'.heap[ρ.blk b]? = some (.cells c' e fr) ∧ CellsRel ρ b cs' ex true u c' fr ∧ ∀ b' : Nat, b' ≠ ρ.blk b → w'.heap[b']? = w.heap[b']? := by
        intro hroom hw h1 cs' hlay
        subst hw
        obtain ⟨w', s1, s2, s3⟩ := Step.stored (P := C.P) hf hi hb hlay h1 n2
        refine ⟨w', ?_, s2, s3⟩
        exact run_append_in (base := some ⟨ρ.blk b, ρ.base b + o, none⟩) h0 hz hd hT ha0 ha1 hl (n1 w rfl) hroom (fun ad hd => by
          simp only [Option.some.injEq] at hd
          subst hd
          rw [addr_add, Nat.add_assoc]
          exact s1) (fun h => nomatch h)
      have grow : ¬ (len + m ≤ cap.conc ρ) → ∀ old, takeL (cs.drop o) (len * j.size) = some old → ∃ rest : Array Value, rest.size = (grownCap w (len + m) (cap.conc ρ) e - (len + m)) * j.size ∧
          (Builtin.append_ ts ty args).run C.P w = .ok (.slice (some ⟨w.heap.size, 0, none⟩) (len + m) (grownCap w (len + m) (cap.conc ρ) e)) { w.drew with heap := w.drew.heap.push (.cells ((concs ρ (old ++ new)).toArray ++ rest) e) } := by
        intro hroom old hold
        obtain ⟨rest, r1, r2⟩ := run_append_out (ty := ty) (old := (concs ρ old).toArray) h0 hz hd hT ha0 ha1 hl (n1 w.drew rfl) hroom hsm (by
          simp only [Builtin.firstCells]
          exact run_cells (w := w.drew) g1 g2.cell hold)
        refine ⟨rest, r1, ?_⟩
        rw [r2]
        simp [concs_eq]
      have oldok : ∀ old, takeL (cs.drop o) (len * j.size) = some old → (∀ v ∈ old ++ new, v.ok ρ p) ∧ (old ++ new).length = (len + m) * j.size := by
        intro old hold
        obtain ⟨t1, rfl⟩ := takeL_some hold
        refine ⟨fun v hv => (List.mem_append.1 hv).elim (fun hv => g3 v (List.mem_of_mem_drop (List.mem_of_mem_take hv))) (n2 v), ?_⟩
        rw [List.length_append, List.length_take, n3, Nat.add_mul]
        omega
      split at h
      · rename_i k
        cases hk : Nat.blt k (len + m) with
        | true =>
          rw [hk, cond_true, takeK_eq, dropN_eq] at h
          rw [Nat.blt_eq] at hk
          split at h
          · cases h
          rename_i old hold
          rw [appK_eq] at h
          have hr := newRow_some h
          subst hr
          obtain ⟨rest, r1, r2⟩ := grow (by simp only [ACap.conc]; omega) old hold
          obtain ⟨o1, o2⟩ := oldok old hold
          refine ⟨_, _, _, _, _, rfl, Nat.le_succ _, ?_, ?_, Step.grown (rest := rest) hi hn o1 o2 (cap_le w (len + m) k e) r1⟩
          · rw [r2]
            simp only [AV.conc, ACap.conc, Env.with_blk, Env.with_base, Env.with_cap, Nat.add_zero, Nat.sub_zero]
          · exact ⟨more_one, more_one, by rw [Env.with_cap, Nat.zero_add]; exact cap_le _ _ _ _⟩
        | false =>
          rw [hk, cond_false] at h
          have hk' : len + m ≤ k := by
            refine Nat.le_of_not_lt fun x => ?_
            rw [← Nat.blt_eq] at x
            rw [x] at hk
            cases hk
          cases hw : (wr && allOne new) with
          | false => rw [hw] at h; cases h
          | true =>
            rw [hw, cond_true] at h
            simp only [Bool.and_eq_true] at hw
            split at h
            · cases h
            rename_i cs' hlay
            obtain ⟨hp', h1, rfl⟩ := heapV_some h
            simp only [setObj, PT.setK_eq, Option.some.injEq] at h1
            obtain ⟨w', s1, s2, _⟩ := room hk' hw.1 hw.2 cs' hlay
            have hwr : wr = true := hw.1
            subst hwr
            subst h1
            obtain ⟨q1, q2⟩ := same (v := .slc b o (len + m) (.known k)) ⟨hpb, hk'⟩ s2
            exact ⟨_, _, _, ρ, w', rfl, Nat.le_refl _, s1, q1, q2⟩
      · rename_i r' i
        cases hw : (Nat.beq r' b && Nat.beq u j.size && Nat.beq o (i * u) && wr && (!ex) && allOne new) with
        | false => rw [hw] at h; cases h
        | true =>
          rw [hw, cond_true, takeK_eq, dropN_eq] at h
          simp only [Bool.and_eq_true, Nat.beq_eq, Bool.not_eq_true'] at hw
          obtain ⟨⟨⟨⟨⟨rfl, w2⟩, w3⟩, w4⟩, w5⟩, w6⟩ := hw
          split at h
          · cases h
          rename_i old hold
          rw [appK_eq, PT.setK_eq] at h
          have hr := newRow_some h
          subst hr
          obtain ⟨o1, o2⟩ := oldok old hold
          by_cases hroom : len + m ≤ (ACap.upto r' i).conc ρ
          · have hopen := g2.opened w5
            obtain ⟨t1, told⟩ := takeL_some hold
            rw [List.length_drop] at t1
            have hcapi : i + len ≤ ρ.cap r' := hcap.2
            simp only [ACap.conc] at hroom
            have hlen' : (concs ρ new).length = m * j.size := by simp [concs_eq, n3]
            have hbound : ρ.base r' + (o + len * j.size) + m * j.size ≤ c.size := by
              have := Nat.mul_le_mul_right u (show i + len + m ≤ ρ.cap r' by omega)
              rw [Nat.add_mul, Nat.add_mul] at this
              rw [hopen, w3, ← w2]
              omega
            obtain ⟨c', q1, q2, q3, q4, q5, q6⟩ := setCells_heap (concs ρ new) (ρ.base r' + (o + len * j.size)) w c e fr g1 (by rw [hlen']; exact hbound)
            have hrun := run_storeCells_cells (P := C.P) (ρ.blk r') (ρ.base r' + (o + len * j.size)) (concs ρ new) 0 w
              (fun k hk => by
                rw [Nat.add_zero, cell_at g1]
                rw [hlen'] at hk
                rw [Array.getElem?_eq_getElem (by omega)]
                rfl)
              (fun k hk => by
                rw [hlen'] at hk
                have := g2.free w4 (ρ.base r' + (o + len * j.size) + k) (by omega)
                simp only [World.frozen?, Nat.add_zero, g1]
                simp only [Bool.and_eq_false_imp, decide_eq_true_eq, decide_eq_false_iff_not]
                omega)
              (fun v hvm => by
                rw [concs_eq, List.mem_map] at hvm
                obtain ⟨x, hx, rfl⟩ := hvm
                exact one_conc hf (allOne_mem w6 x hx))
            rw [Nat.add_zero] at hrun
            have happ := run_append_in (ty := ty) (base := some ⟨ρ.blk r', ρ.base r' + o, none⟩) (w' := w.setCells (ρ.blk r') (ρ.base r' + (o + len * j.size)) (concs ρ new)) h0 hz hd hT ha0 ha1 hl (n1 w rfl) hroom (fun ad hd => by
              simp only [Option.some.injEq] at hd
              subst hd
              rw [addr_add, Nat.add_assoc]
              exact hrun) (fun h => nomatch h)
            have hlold : old.length = len * j.size := by rw [told, List.length_take, List.length_drop]; omega
            have ha := Env.with_agree (p := p) (ρ := ρ) hn (ρ.blk r') (ρ.base r' + o) (ρ.cap r' - i)
            refine ⟨_, _, _, _, _, rfl, Nat.le_succ _, happ.trans ?_, ?_, Step.rename (off := ρ.base r' + o) (c := ρ.cap r' - i) hi hn hb q4 q5 q1 ⟨_, _, rfl, ⟨fun k v hkv => ?_, (fun h => nomatch h), fun _ => ?_, fun _ off hoff => ?_⟩⟩ (fun v hv => AV.ok_mono ha (fun _ => more_left) v (o1 v hv)) q6⟩
            · simp only [AV.conc, ACap.conc, Env.with_blk, Env.with_base, Env.with_cap, Nat.add_zero, Nat.sub_zero]
            · exact ⟨more_one, more_one, by rw [Env.with_cap, Nat.zero_add]; exact hroom⟩
            · rw [Env.with_base, AV.conc_congr ha v (o1 v (List.mem_of_getElem? hkv)), q3, hlen']
              by_cases hk : k < old.length
              · rw [if_neg (by omega), Nat.add_assoc]
                rw [List.getElem?_append_left hk] at hkv
                apply g2.cell
                rw [told, List.getElem?_take_of_lt (by omega), List.getElem?_drop] at hkv
                exact hkv
              · rw [List.getElem?_append_right (by omega)] at hkv
                have hkn : k - old.length < new.length := (List.getElem?_eq_some_iff.1 hkv).1
                rw [if_pos (by omega), show ρ.base r' + o + k - (ρ.base r' + (o + len * j.size)) = k - old.length from by omega, concs_get, hkv]
                rfl
            · rw [q2, hopen, Env.with_base, Env.with_cap, w3, ← w2, Nat.sub_mul]
              have := Nat.mul_le_mul_right u (show i ≤ ρ.cap r' by omega)
              omega
            · rw [q2] at hoff
              exact g2.free w4 off hoff
          · obtain ⟨rest, r1, r2⟩ := grow hroom old hold
            refine ⟨_, _, _, _, _, rfl, Nat.le_succ _, ?_, ?_, (Step.drop hi r').trans (Step.grown (rest := rest) (Step.drop hi r').inv hn o1 o2 (cap_le w (len + m) ((ACap.upto r' i).conc ρ) e) r1)⟩
            · rw [r2]
              simp only [AV.conc, ACap.conc, Env.with_blk, Env.with_base, Env.with_cap, Nat.add_zero, Nat.sub_zero]
            · exact ⟨more_one, more_one, by rw [Env.with_cap, Nat.zero_add]; exact cap_le _ _ _ _⟩
  · cases h

theorem aAppend_sound (hC : C.Ok) (hf : ρ.fine) (hi : Inv C ρ p hp w) (htm : Tm ρ p tm sz a.tmps) {nx : Nat} (hn : ¬ p nx) {ts : Array Nat} {t ty : Nat} {args : Array Operand}
    (h0 : ts[0]? = some t) (hz : Appended C.P ts) {r : OpR} (h : aAppend C.T tm hp nx t args.toList = some r) :
    ∃ v hp' nx' ρ' w', r = .heap v hp' nx' ∧ nx ≤ nx' ∧ (Builtin.append_ ts ty (args.map a.eval)).run C.P w = .ok (v.conc ρ') w' ∧ v.ok ρ' (more p nx nx') ∧ Step C ρ p hp w ρ' (more p nx nx') hp' w' := by
  unfold aAppend at h
  split at h
  rotate_left
  · cases h
  rename_i s x hargs
  obtain ⟨e1, e2⟩ := args_list htm hargs
  split at h
  · cases h
  rename_i e j hej
  obtain ⟨hd, hT⟩ := elemOf_some hC hej
  split at h
  · cases h
  rename_i m hm
  cases hsz : Nat.beq j.size 0 with
  | true => rw [hsz] at h; cases h
  | false =>
    rw [hsz, cond_false] at h
    split at h
    · cases h
    rename_i new hnew
    exact appendA_sound hf hi hn h0 hz hd hT (by rw [e1]; rfl) (by rw [e1]; rfl) e2.1 hm hnew h

theorem aCopy_sound (hC : C.Ok) (hf : ρ.fine) (hi : Inv C ρ p hp w) (htm : Tm ρ p tm sz a.tmps) {nx : Nat} {ts : Array Nat} {t ty : Nat} {args : Array Operand}
    (h0 : ts[0]? = some t) {r : OpR} (h : aCopy C.T tm hp nx t args.toList = some r) :
    ∃ v hp' w', r = .heap v hp' nx ∧ (Builtin.copy_ ts ty (args.map a.eval)).run C.P w = .ok (v.conc ρ) w' ∧ v.ok ρ p ∧ Step C ρ p hp w ρ p hp' w' := by
  unfold aCopy at h
  split at h
  rotate_left
  · cases h
  rename_i d x hargs
  obtain ⟨e1, e2⟩ := args_list htm hargs
  split at h
  · cases h
  rename_i e j hej
  obtain ⟨hd, hT⟩ := elemOf_some hC hej
  split at h
  · cases h
  rename_i dl hdl
  split at h
  · cases h
  rename_i sl hsl
  rw [natK_eq] at h
  have hmin : (bif Nat.ble sl dl then sl else dl) = Nat.min sl dl := by
    cases hb : Nat.ble sl dl with
    | true => rw [cond_true]; rw [Nat.ble_eq] at hb; exact (Nat.min_eq_left hb).symm
    | false =>
      rw [cond_false]
      refine (Nat.min_eq_right (Nat.le_of_not_le fun h => ?_)).symm
      rw [← Nat.ble_eq] at h
      rw [h] at hb
      cases hb
  rw [hmin] at h
  split at h
  · cases h
  rename_i new hnew
  obtain ⟨n1, n2, n3⟩ := srcCells_sound (P := C.P) hi hnew
  have hl := lenOf_sound (ρ := ρ) (P := C.P) (w := w) hsl
  have ha0 : (args.map a.eval)[0]? = some (d.conc ρ) := by rw [e1]; rfl
  have ha1 : (args.map a.eval)[1]? = some (x.conc ρ) := by rw [e1]; rfl
  unfold Builtin.copy_
  simp only [h0, ha0, ha1]
  split at h
  · simp only [Option.some.injEq] at h
    subst h
    simp only [lenOf, Option.some.injEq] at hdl
    subst hdl
    refine ⟨_, _, w, rfl, ?_, trivial, .refl hi rfl (.refl _) fun _ x => x⟩
    simp only [Sem.run_bind, run_underlying' hd, Result.andThen_ok, AV.conc, hl, hT.run_size, n1 w rfl, Sem.run_pure, goInt]
    rfl
  · rename_i b o dlen cap
    split at h
    rotate_left
    · cases h
    rename_i cs e' ex u hb
    cases h1 : allOne new with
    | false => rw [h1] at h; cases h
    | true =>
      rw [h1, cond_true] at h
      split at h
      · cases h
      rename_i cs' hlay
      obtain ⟨hp', hh, rfl⟩ := heapV_some h
      simp only [setObj, PT.setK_eq, Option.some.injEq] at hh
      subst hh
      simp only [lenOf, Option.some.injEq] at hdl
      subst hdl
      obtain ⟨w', s1, s2, _⟩ := Step.stored (P := C.P) hf hi hb hlay h1 n2
      refine ⟨_, _, w', rfl, ?_, trivial, s2⟩
      simp only [Sem.run_bind, run_underlying' hd, Result.andThen_ok, AV.conc, hl, hT.run_size, n1 w rfl, s1, Sem.run_pure, goInt]
      rfl
  · cases h

/-! ### String over bytes -/
theorem run_loadBytes {B : Nat} {c : Array Value} {e : TypeId} {fr : Nat × Nat} (hb : w.heap[B]? = some (.cells c e fr)) : ∀ (s : List Nat) (off : Nat) (acc : ByteArray), (∀ (i : Nat) v, s[i]? = some v → c[off + i]? = some (.int .u8 (.ofNat v))) →
    (Go.loadBytes ⟨B, off, none⟩ acc s.length).run P w = .ok ⟨acc.data ++ (s.map UInt8.ofNat).toArray⟩ w
  | [], off, acc, _ => by simp [Go.loadBytes]
  | x :: xs, off, acc, h => by
    have hx := h 0 x rfl
    rw [Nat.add_zero] at hx
    have ih := run_loadBytes hb xs (off + 1) (acc.push (UInt8.ofNat x)) (fun i v hv => by rw [Nat.add_assoc, Nat.add_comm 1]; exact h (i + 1) v hv)
    simp only [List.length_cons, Go.loadBytes, Sem.run_bind, run_load, cell_at hb, hx, Result.andThen_ok, addr_add]
    have hc : (Int.ofNat x).toNat.toUInt8 = UInt8.ofNat x := rfl
    rw [hc, ih]
    congr 2
    simp [ByteArray.push]

theorem liesBytes (P : Program) {e cells off n : Nat} (hs : P.cellsOf e = 1) (h : off + n ≤ cells) : liesAt P P.depth e (cells / P.cellsOf e) off e n = true := by
  unfold Program.depth
  unfold liesAt
  rw [hs, Bool.or_eq_true]
  refine .inl ?_
  show rowAt P _ (2 * (P.types.size + Made.depth) + 1 + 1) e (cells / 1) off n = true
  unfold rowAt
  have hsame : ∀ d, sameLayout P (d + 1) e e = true := fun d => by unfold sameLayout; simp
  simp only [hs, Nat.div_one, Nat.mod_one, Nat.one_ne_zero, if_false, Bool.or_eq_true, Bool.and_eq_true, beq_iff_eq, decide_eq_true_eq]
  exact .inl ⟨⟨trivial, h⟩, hsame _⟩

theorem aUnsafeString_sound (hC : C.Ok) (hi : Inv C ρ p hp w) (htm : Tm ρ p tm sz a.tmps) {nx : Nat} {ts : Array Nat} {t ty : Nat} {args : Array Operand}
    (h0 : ts[0]? = some t) {r : OpR} (h : aUnsafeString C.T tm hp nx t args.toList = some r) :
    ∃ v hp' w', r = .heap v hp' nx ∧ (Builtin.unsafeString_ ts ty (args.map a.eval)).run C.P w = .ok (v.conc ρ) w' ∧ v.ok ρ p ∧ Step C ρ p hp w ρ p hp' w' := by
  unfold aUnsafeString at h
  split at h
  · rename_i k hargs
    obtain ⟨e1, _⟩ := args_list htm hargs
    simp only [Option.some.injEq] at h
    subst h
    refine ⟨_, _, w, rfl, ?_, trivial, .refl hi rfl (.refl _) fun _ x => x⟩
    rw [e1]
    show Sem.run C.P (Bind.bind (asInt (Value.int k (Int.ofNat 0))) _) w = _
    simp only [asInt, asIntOf, Sem.run_bind, Sem.run_pure, Result.andThen_ok, h0]
    rfl
  · rename_i b o k n hargs
    obtain ⟨e1, e2⟩ := args_list htm hargs
    have hshow : (Builtin.unsafeString_ ts ty (args.map a.eval)) = Builtin.unsafeString_ ts ty #[.pointer (some ⟨ρ.blk b, ρ.base b + o, none⟩), .int k (.ofNat n)] := by rw [e1]; rfl
    split at h
    · simp only [Option.some.injEq] at h
      subst h
      refine ⟨_, _, w, rfl, ?_, trivial, .refl hi rfl (.refl _) fun _ x => x⟩
      rw [hshow]
      show Sem.run C.P (Bind.bind (asInt (Value.int k (Int.ofNat 0))) _) w = _
      simp only [asInt, asIntOf, Sem.run_bind, Sem.run_pure, Result.andThen_ok, h0]
      rfl
    · rename_i n
      split at h
      rotate_left
      · cases h
      rename_i cs e ex wr u hb
      split at h
      · cases h
      rename_i j hj
      split at h
      rotate_left
      · cases h
      rename_i hdesc
      split at h
      · cases h
      rename_i pi hpi
      split at h
      rotate_left
      · cases h
      rename_i e' hpd
      cases hc : (Nat.beq e e' && Nat.beq j.size 1 && Nat.ble (n + 1) 1048576) with
      | false => rw [hc] at h; cases h
      | true =>
        rw [hc, cond_true, takeK_eq, dropN_eq] at h
        simp only [Bool.and_eq_true, Nat.beq_eq, Nat.ble_eq] at hc
        obtain ⟨⟨rfl, c2⟩, c3⟩ := hc
        split at h
        · cases h
        rename_i l hl
        split at h
        · cases h
        rename_i s hs
        obtain ⟨hp', hh, rfl⟩ := heapV_some h
        simp only [setObj, PT.setK_eq, Option.some.injEq] at hh
        subst hh
        obtain ⟨c, fr, g1, g2, g3, _⟩ := hi.cells hb
        obtain ⟨d, hd, hrel⟩ := (hC.ty _ _ hpi).desc
        rw [hpd] at hrel
        cases (show d = .pointer e from hrel)
        obtain ⟨inf, i1, i2, _⟩ := (hC.ty _ _ hj).info
        have hco : C.P.cellsOf e = 1 := by simp [Program.cellsOf, i1, i2, c2]
        obtain ⟨t1, tl⟩ := takeL_some hl
        rw [List.length_drop] at t1
        have hcells := byteCells_some hs
        have hlen : s.length = n + 1 := by
          have := congrArg List.length hcells
          rw [List.length_map] at this
          rw [← this, tl, List.length_take, List.length_drop]; omega
        have hat : ∀ (i : Nat) v, s[i]? = some v → c[ρ.base b + o + i]? = some (.int .u8 (.ofNat v)) := fun i v hv => by
          have h1 : l[i]? = some (.int .u8 (.ofNat v)) := by rw [hcells, List.getElem?_map, hv]; rfl
          have hin : i < n + 1 := by rw [← hlen]; exact (List.getElem?_eq_some_iff.1 hv).1
          rw [tl, List.getElem?_take_of_lt hin, List.getElem?_drop] at h1
          rw [Nat.add_assoc]
          exact g2.cell _ _ h1
        have hsz : ρ.base b + o + (n + 1) ≤ c.size := by
          have hlast : n < s.length := by omega
          have := (Array.getElem?_eq_some_iff.1 (hat n _ (List.getElem?_eq_getElem hlast))).1
          omega
        have hlies := liesBytes C.P hco hsz
        have hload := run_loadBytes (P := C.P) g1 s (ρ.base b + o) .empty hat
        rw [hlen] at hload
        have hbytes : (⟨ByteArray.empty.data ++ (s.map UInt8.ofNat).toArray⟩ : ByteArray) = bytesOf s := by
          have : ByteArray.empty.data = #[] := rfl
          rw [this]
          simp [bytesOf]
        rw [hbytes] at hload
        let fz : Obj → Obj := fun
          | .cells c elem (lo, hi) => .cells c elem (if lo == hi then (ρ.base b + o, ρ.base b + o + (n + 1)) else (min lo (ρ.base b + o), max hi (ρ.base b + o + (n + 1))))
          | ob => ob
        have hfz : w.freeze ⟨ρ.blk b, ρ.base b + o, none⟩ (n + 1) = { w with heap := w.heap.modify (ρ.blk b) fz } := by
          unfold World.freeze
          rw [if_neg (by omega)]
          rfl
        have hstep : Step C ρ p hp w ρ p (hp.set b (some (.cells cs e ex false u))) (w.freeze ⟨ρ.blk b, ρ.base b + o, none⟩ (n + 1)) := by
          rw [hfz]
          refine Step.update hi hb (by simp) (fun b' hb' => ?_) (o' := fz (.cells c e fr)) ?_ ⟨c, _, rfl, g2.cell, g2.exact, g2.opened, (fun h => nomatch h)⟩ g3 ⟨rfl, rfl, rfl⟩
          · show (w.heap.modify (ρ.blk b) fz)[b']? = _
            rw [Array.getElem?_modify, if_neg (fun x => hb' x.symm)]
          · show (w.heap.modify (ρ.blk b) fz)[ρ.blk b]? = _
            rw [Array.getElem?_modify, if_pos rfl, g1]
            rfl
        refine ⟨_, _, _, rfl, ?_, trivial, hstep⟩
        rw [hshow]
        have z1 : ¬ (Int.ofNat (n + 1) < 0) := by simp only [Int.ofNat_eq_natCast]; omega
        have z2 : ¬ (Int.ofNat (n + 1) > IntKind.i64.max) := by
          have : IntKind.i64.max = 9223372036854775807 := rfl
          rw [this]
          simp only [Int.ofNat_eq_natCast]; omega
        have z3 : ¬ (Int.ofNat (n + 1) = 0) := by simp only [Int.ofNat_eq_natCast]; omega
        have z4 : (Int.ofNat (n + 1)).toNat = n + 1 := rfl
        show Sem.run C.P (Bind.bind (asInt (Value.int k (Int.ofNat (n + 1)))) _) w = _
        simp only [asInt, asIntOf, Sem.run_bind, Sem.run_pure, Result.andThen_ok, h0, if_neg z1, if_neg z2, if_neg z3, z4, Go.elemOf, run_underlying' hd, variablesAt, run_program, run_shape, World.shape?, g1, hlies, if_true, hload, run_freeze, AV.conc]
  · cases h

end appends
end Go.Ev
