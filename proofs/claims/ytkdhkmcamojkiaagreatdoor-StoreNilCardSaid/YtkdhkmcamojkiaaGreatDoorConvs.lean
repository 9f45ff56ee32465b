/- Builtins that turn nothing; functions without a body; conversions. -/
import Derived.Test.YtkdhkmcamojkiaaGreatDoorReads
import Derived.Laws.IdiomStrings
import Derived.Lib.Bytealg
namespace Go.Ev

section convs
variable {C : Ctx} {ρ : Env} {p : Nat → Prop} {tm : PT AV} {sz : Nat} {a : Act} {hp : Heap} {w : World} {P : Program}

theorem lenA_sound (hC : C.Ok) (hi : Inv C ρ p hp w) (htm : Tm ρ p tm sz a.tmps) {t ty : Nat} {x : Operand} {v : AV} {ts : Array Nat} {args : Array Value} (ht : ts[0]? = some t) (ha : args[0]? = some (a.eval x))
    (h : lenA C.T hp t (evalO tm x) = some v) : (Builtin.len_ ts ty args).run C.P w = .ok (v.conc ρ) w ∧ v.ok ρ p := by
  unfold lenA at h
  split at h
  · cases h
  rename_i i hti
  obtain ⟨d, hd, hrel⟩ := (hC.ty _ _ hti).desc
  unfold Builtin.len_
  simp only [ht, ha]
  split at h
  · rename_i s hdesc hx
    rw [hdesc] at hrel
    cases (show d = .string from hrel)
    simp only [natK_eq, lenL_eq, Nat.add_zero, Option.some.injEq] at h
    subst h
    obtain ⟨h1, _⟩ := evalO_some htm hx
    exact ⟨by simp only [Sem.run_bind, run_underlying' hd, Result.andThen_ok, h1, AV.conc, bytesOf_size, Sem.run_pure, goInt]; rfl, trivial⟩
  · rename_i e b o n cap hdesc hx
    rw [hdesc] at hrel
    cases (show d = .slice e from hrel)
    simp only [Option.some.injEq] at h
    subst h
    obtain ⟨h1, _⟩ := evalO_some htm hx
    exact ⟨by simp only [Sem.run_bind, run_underlying' hd, Result.andThen_ok, h1, AV.conc, Sem.run_pure, goInt]; rfl, trivial⟩
  · rename_i e hdesc hx
    rw [hdesc] at hrel
    cases (show d = .slice e from hrel)
    simp only [Option.some.injEq] at h
    subst h
    obtain ⟨h1, _⟩ := evalO_some htm hx
    exact ⟨by simp only [Sem.run_bind, run_underlying' hd, Result.andThen_ok, h1, AV.conc, Sem.run_pure, goInt]; rfl, trivial⟩
  · rename_i e k hdesc hx
    rw [hdesc] at hrel
    cases (show d = .slice e from hrel)
    simp only [Option.some.injEq] at h
    subst h
    obtain ⟨h1, _⟩ := evalO_some htm hx
    exact ⟨by simp only [Sem.run_bind, run_underlying' hd, Result.andThen_ok, h1, AV.conc, Sem.run_pure, goInt]; rfl, trivial⟩
  · rename_i n e _ hdesc hx
    rw [hdesc] at hrel
    cases (show d = .array n e from hrel)
    simp only [Option.some.injEq] at h
    subst h
    exact ⟨by simp only [Sem.run_bind, run_underlying' hd, Result.andThen_ok, AV.conc, Sem.run_pure, goInt]; rfl, trivial⟩
  · rename_i kt et hdesc hx
    rw [hdesc] at hrel
    cases (show d = .map kt et from hrel)
    simp only [Option.some.injEq] at h
    subst h
    obtain ⟨h1, _⟩ := evalO_some htm hx
    exact ⟨by simp only [Sem.run_bind, run_underlying' hd, Result.andThen_ok, h1, AV.conc, Sem.run_pure, goInt], trivial⟩
  · rename_i kt et b hdesc hx
    rw [hdesc] at hrel
    cases (show d = .map kt et from hrel)
    split at h
    · rename_i es clock hb
      simp only [natK_eq, Option.some.injEq] at h
      subst h
      obtain ⟨h1, _⟩ := evalO_some htm hx
      obtain ⟨h2, _, _⟩ := hi.map hb
      refine ⟨?_, trivial⟩
      simp only [Sem.run_bind, run_underlying' hd, Result.andThen_ok, h1, AV.conc, run_getObj h2 (by simp), Sem.run_pure, goInt]
      simp
    · cases h
  · cases h

theorem args_list (htm : Tm ρ p tm sz a.tmps) {args : Array Operand} {vs : List AV} (h : evalL tm args.toList = some vs) : args.map a.eval = (concs ρ vs).toArray ∧ oks ρ p vs := by
  obtain ⟨h1, h2⟩ := evalL_some htm h
  exact ⟨by rw [concs_eq, ← h1, ← Array.toList_inj]; simp, (oks_iff _ _ _).2 h2⟩

theorem aMinMax_sound {mx : Bool} {vs : List AV} {v : AV} {ts : Array Nat} {ty : Nat} (h : aMinMax mx (some vs) = some v) :
    ((if mx then Builtin.max_ ts ty (concs ρ vs).toArray else Builtin.min_ ts ty (concs ρ vs).toArray).run P w = .ok (v.conc ρ) w) ∧ v.ok ρ p := by
  unfold aMinMax at h
  split at h
  · rename_i k x k' y hvs
    simp only [Option.some.injEq] at hvs
    subst hvs
    cases hk : kindEq k k' with
    | false => rw [hk] at h; cases h
    | true =>
      rw [hk, cond_true] at h
      simp only [Option.some.injEq] at h
      subst h
      refine ⟨?_, trivial⟩
      cases mx with
      | true =>
        simp only [if_true, Builtin.max_, concs, AV.conc, List.foldlM_cons, List.foldlM_nil, Builtin.max2, Sem.run_bind, Sem.run_pure, Result.andThen_ok, cond_true, ltI_eq]
        by_cases hlt : x < y <;> simp [hlt]
      | false =>
        simp only [if_false, Bool.false_eq_true, Builtin.min_, concs, AV.conc, List.foldlM_cons, List.foldlM_nil, Builtin.min2, Sem.run_bind, Sem.run_pure, Result.andThen_ok, cond_false, ltI_eq]
        by_cases hlt : y < x <;> simp [hlt]
  · cases h

theorem aSliceData_sound {vs : List AV} {v : AV} {ts : Array Nat} {ty : Nat} (hv : oks ρ p vs) (h : aSliceData (some vs) = some v) :
    (Builtin.unsafeSliceData_ ts ty (concs ρ vs).toArray).run P w = .ok (v.conc ρ) w ∧ v.ok ρ p := by
  unfold aSliceData at h
  split at h
  · rename_i hvs
    simp only [Option.some.injEq] at hvs h
    subst hvs
    subst h
    exact ⟨rfl, trivial⟩
  · rename_i b o n cap hvs
    simp only [Option.some.injEq] at hvs h
    subst hvs
    subst h
    refine ⟨?_, hv.1.1⟩
    have : cap.conc ρ ≠ 0 := by
      have := hv.1.2
      cases cap with
      | known c => simp only [ACap.ok, ACap.conc] at this ⊢; omega
      | upto r k => simp only [ACap.ok, ACap.conc] at this ⊢; omega
    show (if cap.conc ρ ≠ 0 then pure (Value.pointer (some ⟨ρ.blk b, ρ.base b + o, none⟩)) else _ : Sem Value).run P w = _
    rw [if_pos this]
    rfl
  · cases h

/-! ### Functions without a body -/
theorem compareBytes_less : ∀ a b : List UInt8, Lib.compareBytes a b = if Op.bytesLess a b then -1 else if Op.bytesLess b a then 1 else 0
  | [], [] => by simp [Lib.compareBytes, Op.bytesLess]
  | [], _ :: _ => by simp [Lib.compareBytes, Op.bytesLess]
  | _ :: _, [] => by simp [Lib.compareBytes, Op.bytesLess]
  | x :: xs, y :: ys => by
    have ih := compareBytes_less xs ys
    rw [Lib.compareBytes]
    by_cases h1 : x < y
    · simp [Op.bytesLess, h1]
    · by_cases h2 : y < x
      · have : ¬ x = y := fun e => h1 (by rw [e] at h2; exact absurd h2 (UInt8.lt_irrefl y))
        simp [Op.bytesLess, h1, h2, this]
      · have e : x = y := UInt8.le_antisymm (UInt8.not_lt.1 h2) (UInt8.not_lt.1 h1)
        subst e
        rw [if_neg h1, if_neg h1, ih]
        have hb : ∀ us vs : List UInt8, Op.bytesLess (x :: us) (x :: vs) = Op.bytesLess us vs := by
          intro us vs
          simp [Op.bytesLess, h1]
        rw [hb, hb]

theorem extA_sound {e : Ext} {vs : List AV} {v : AV} (hv : oks ρ p vs) (h : extA e vs = some v) : (extOf e (concs ρ vs).toArray).run P w = .ok (v.conc ρ) w ∧ v.ok ρ p := by
  unfold extA at h
  split at h
  · rename_i x
    simp only [Option.some.injEq] at h
    subst h
    exact ⟨rfl, hv.1⟩
  · rename_i s c
    simp only [natK_eq, Option.some.injEq] at h
    subst h
    refine ⟨?_, trivial⟩
    have hr := Lib.run_countString (P := P) (bytesOf s) (Int.ofNat c) w
    refine Eq.trans (show _ = _ from hr) ?_
    congr 2
    have hc : ((c : Nat) : Int).toNat.toUInt8 = UInt8.ofNat c := by simp
    simp only [Lib.countByte, Int.ofNat_eq_natCast, hc, bytesOf, List.count_eq_countP, List.countP_eq_length_filter, List.filter_map, List.length_map]
    have : ((fun x => x == UInt8.ofNat c) ∘ UInt8.ofNat) = fun x => Nat.beq (x % 256) (c % 256) := by
      funext x
      rw [Function.comp, Bool.eq_iff_iff, Nat.beq_eq, beq_iff_eq, ← UInt8.toNat_inj]
      simp
    rw [this]
  · rename_i x y
    simp only [Option.some.injEq] at h
    subst h
    refine ⟨?_, trivial⟩
    have hr := Lib.run_compareString (P := P) (bytesOf x) (bytesOf y) w
    refine Eq.trans (show _ = _ from hr) ?_
    rw [ltL_eq, ltL_eq, compareBytes_less]
    simp only [bytesOf, AV.conc]
    simp only [Bool.cond_eq_ite]
    rfl
  · cases h

/-! ### Conversions -/
theorem byteCells_some : ∀ {cs : List AV} {s : List Nat}, byteCells cs = some s → cs = s.map fun n => .int .u8 (.ofNat n)
  | [], s, h => by simp only [byteCells, Option.some.injEq] at h; subst h; rfl
  | c :: cs, s, h => by
    unfold byteCells at h
    split at h
    · rename_i h0; cases h0
    · rename_i n cs' hc
      cases hc
      split at h
      · rename_i r hr
        simp only [Option.some.injEq] at h
        subst h
        rw [byteCells_some hr]
        rfl
      · cases h
    · cases h

theorem pushes (s : List Nat) : ∀ (b : ByteArray), (s.map fun n => Int.ofNat n).foldl (fun r n => r.push (UInt8.ofNat n.toNat)) b = ⟨b.data ++ (s.map UInt8.ofNat).toArray⟩ := by
  induction s with
  | nil => intro b; simp
  | cons x xs ih =>
    intro b
    rw [List.map_cons, List.foldl_cons, ih]
    simp [ByteArray.push]

theorem aBytesStr_sound (hC : C.Ok) (hi : Inv C ρ p hp w) {e : Nat} {x : AV} {v : AV} (hx : x.ok ρ p) (h : aBytesStr C.T hp e (some x) = some v) :
    (∃ o l c, x.conc ρ = .slice o l c) ∧ C.P.underlying e = some (.int .u8) ∧ (Conv.bytesToString (x.conc ρ)).run C.P w = .ok (v.conc ρ) w ∧ v.ok ρ p := by
  unfold aBytesStr at h
  split at h
  · cases h
  rename_i j hj
  obtain ⟨d, hd, hrel⟩ := (hC.ty _ _ hj).desc
  split at h
  · rename_i hdesc
    rw [hdesc] at hrel
    cases (show d = .int .u8 from hrel)
    split at h
    · rename_i hx0
      simp only [Option.some.injEq] at hx0 h
      subst hx0
      subst h
      exact ⟨⟨_, _, _, rfl⟩, hd, rfl, trivial⟩
    · rename_i b o len cap hx0
      simp only [Option.some.injEq] at hx0
      subst hx0
      unfold cut at h
      split at h
      · cases h
      rename_i cs hcs
      simp only [takeK_eq, dropN_eq] at h
      split at h
      · cases h
      rename_i l hl
      split at h
      · rename_i s hs
        simp only [Option.some.injEq] at h
        subst h
        refine ⟨⟨_, _, _, rfl⟩, hd, ?_, trivial⟩
        unfold cellsAt at hcs
        split at hcs
        · rename_i cs0 e0 ex wr u hb
          simp only [Option.some.injEq] at hcs
          subst hcs
          obtain ⟨cs', fr, h1, h2, h3, _⟩ := hi.cells hb
          have hrc := run_cells (P := C.P) h1 h2.cell hl
          have hconc : concs ρ l = (s.map fun n => Int.ofNat n).map (Value.int .u8) := by
            rw [byteCells_some hs, concs_eq]
            simp [AV.conc]
          rw [hconc] at hrc
          simp only [AV.conc]
          rw [run_bytesToString w _ _ _ _ hrc, pushes]
          congr 2
          have : ByteArray.empty.data = #[] := rfl
          rw [this]
          simp [bytesOf]
        · cases hcs
      · cases h
    · cases h
  · cases h

theorem aBytesStr_none {T : Tabs} {e : Nat} : aBytesStr T hp e none = none := by
  unfold aBytesStr
  split
  · rfl
  · split <;> rfl

theorem run_viewAt {r : Nat} {c : Array Value} {e : TypeId} {fr : Nat × Nat} (h : w.heap[r]? = some (.cells c e fr)) : (viewAt r).run P w = .ok none w := by
  simp [viewAt, World.shape?, h]
theorem run_cellsIn {r : Nat} {c : Array Value} {e : TypeId} {fr : Nat × Nat} (h : w.heap[r]? = some (.cells c e fr)) : (cellsIn r).run P w = .ok (some c.size) w := by
  simp [cellsIn, World.shape?, h]

theorem lies (P : Program) {e count size : Nat} (hs : P.cellsOf e = size) (h0 : 0 < size) (hc : size ≤ count) : liesAt P P.depth e (count / P.cellsOf e) 0 e 1 = true := by
  unfold Program.depth
  unfold liesAt
  rw [hs, Bool.or_eq_true]
  refine .inl ?_
  show rowAt P _ (2 * (P.types.size + Made.depth) + 1 + 1) e (count / size) 0 1 = true
  unfold rowAt
  have hne : ¬ P.cellsOf e = 0 := by omega
  simp only [hs] at hne ⊢
  rw [if_neg hne]
  have h1 : 1 ≤ count / size := (Nat.le_div_iff_mul_le h0).2 (by omega)
  have hsame : ∀ d, sameLayout P (d + 1) e e = true := fun d => by unfold sameLayout; simp
  simp only [Nat.zero_div, Nat.zero_mod, Nat.zero_add, Bool.or_eq_true, Bool.and_eq_true, beq_iff_eq, decide_eq_true_eq]
  exact .inl ⟨⟨trivial, h1⟩, hsame _⟩

theorem aConvert_sound (hC : C.Ok) (hi : Inv C ρ p hp w) (htm : Tm ρ p tm sz a.tmps) {nx : Nat} (hn : ¬ p nx) {s d : Nat} {x : Operand} {r : OpR} (h : aConvert C.T tm hp nx s d x = some r) :
    (∃ v, r = .val v ∧ (convert s d (a.eval x)).run C.P w = .ok (v.conc ρ) w ∧ v.ok ρ p) ∨
    (∃ v ob ρ' w', r = .new v (some ob) ∧ (convert s d (a.eval x)).run C.P w = .ok (v.conc ρ') w' ∧ v.ok ρ' (more p nx (nx + 1)) ∧ Step C ρ p hp w ρ' (more p nx (nx + 1)) (hp.set nx (some ob)) w') := by
  unfold aConvert at h
  split at h
  · cases h
  rename_i si hsi
  split at h
  · cases h
  rename_i di hdi
  obtain ⟨ds, hds, hrs⟩ := (hC.ty _ _ hsi).desc
  obtain ⟨dd, hdd, hrd⟩ := (hC.ty _ _ hdi).desc
  split at h
  · rename_i k' k h1 h2
    rw [h1] at hrs
    rw [h2] at hrd
    cases (show ds = .int k' from hrs)
    cases (show dd = .int k from hrd)
    split at h
    · rename_i j n hx
      simp only [intK_eq, wrapF_eq, Option.some.injEq] at h
      subst h
      obtain ⟨e1, _⟩ := evalO_some htm hx
      refine .inl ⟨_, rfl, ?_, trivial⟩
      simp only [convert, Sem.run_bind, run_underlying' hds, run_underlying' hdd, Result.andThen_ok, e1, AV.conc, Conv.intToInt, Sem.run_pure]
    · cases h
  · rename_i h1 h2
    rw [h1] at hrs
    rw [h2] at hrd
    cases (show ds = .string from hrs)
    cases (show dd = .string from hrd)
    split at h
    · rename_i s' hx
      simp only [Option.some.injEq] at h
      subst h
      obtain ⟨e1, _⟩ := evalO_some htm hx
      refine .inl ⟨_, rfl, ?_, trivial⟩
      simp only [convert, Sem.run_bind, run_underlying' hds, run_underlying' hdd, Result.andThen_ok, e1, AV.conc, Sem.run_pure]
    · cases h
  · rename_i e h1 h2
    rw [h1] at hrs
    rw [h2] at hrd
    cases (show ds = .slice e from hrs)
    cases (show dd = .string from hrd)
    cases hx : evalO tm x with
    | none =>
      rw [hx, aBytesStr_none] at h
      cases h
    | some xv =>
      rw [hx] at h
      cases hv : aBytesStr C.T hp e (some xv) with
      | none => rw [hv] at h; cases h
      | some v =>
        rw [hv] at h
        simp only [ofVal, Option.some.injEq] at h
        subst h
        obtain ⟨e1, e2⟩ := evalO_some htm hx
        obtain ⟨⟨o, l, c, q0⟩, q1, q2, q3⟩ := aBytesStr_sound hC hi e2 hv
        refine .inl ⟨v, rfl, ?_, q3⟩
        rw [e1, q0, run_convert_bytes_string w s d e o l c hds q1 hdd, ← q0]
        exact q2
  · rename_i e h1 h2
    rw [h1] at hrs
    rw [h2] at hrd
    cases (show ds = .string from hrs)
    cases (show dd = .slice e from hrd)
    unfold aStrBytes at h
    split at h
    · cases h
    rename_i j hj
    obtain ⟨de, hde, hre⟩ := (hC.ty _ _ hj).desc
    split at h
    · rename_i h3
      rw [h3] at hre
      cases (show de = .int .u8 from hre)
      split at h
      · rename_i s' hx
        simp only [lenL_eq, Nat.add_zero, Option.some.injEq] at h
        subst h
        have hx' : evalO tm x = some (.str s') := hx
        obtain ⟨e1, _⟩ := evalO_some htm hx'
        have hrun := run_bytes_of_string (P := C.P) w s d e (bytesOf s') hds hdd hde
        have hcap : s'.length ≤ grownCap w (bytesOf s').size 0 e := by
          rw [bytesOf_size]
          simp only [grownCap, Question.cut]
          omega
        have hsize : (bytesRow (bytesOf s') (grownCap w (bytesOf s').size 0 e)).size = grownCap w (bytesOf s').size 0 e := by
          simp only [bytesRow, Array.size_append, Array.size_map, Array.size_replicate]
          have : (bytesOf s').data.size = (bytesOf s').size := rfl
          rw [this]
          rw [bytesOf_size] at hcap ⊢
          omega
        have hst := Step.alloc' (ρ := ρ) (o := .cells (bytesRow (bytesOf s') (grownCap w (bytesOf s').size 0 e)) e ((bytesRow (bytesOf s') (grownCap w (bytesOf s').size 0 e)).size, (bytesRow (bytesOf s') (grownCap w (bytesOf s').size 0 e)).size + 1))
          (ob := .cells (s'.map fun c => .int .u8 (.ofNat (c % 256))) e false true 1) (c := grownCap w (bytesOf s').size 0 e) (w₁ := w.drew) hi hn rfl ⟨rfl, rfl, rfl⟩
          ⟨_, _, rfl, ⟨fun i v hv => by
            rw [Env.with_base, Nat.zero_add]
            simp only [List.getElem?_map] at hv
            cases hs : s'[i]? with
            | none => rw [hs] at hv; cases hv
            | some c =>
              rw [hs] at hv
              simp only [Option.map_some, Option.some.injEq] at hv
              subst hv
              have hlt : i < s'.length := (List.getElem?_eq_some_iff.1 hs).1
              have hlt' : i < (bytesOf s').data.size := by simpa [bytesOf] using hlt
              rw [bytesRow_at _ _ _ hlt']
              have hg : (bytesOf s').data[i] = UInt8.ofNat c := by
                simp only [bytesOf, List.getElem_toArray, List.getElem_map]
                congr 1
                exact (List.getElem?_eq_some_iff.1 hs).2
              rw [hg]
              simp [AV.conc], (fun h => nomatch h), (fun _ => by rw [hsize, Env.with_base, Env.with_cap]; omega), (fun _ off hoff hfr => by
                simp only at hfr
                omega)⟩⟩ (by
            intro v hv
            simp only [List.mem_map] at hv
            obtain ⟨c, _, rfl⟩ := hv
            trivial)
        refine .inr ⟨_, _, _, _, rfl, ?_, ?_, hst⟩
        · rw [e1]
          simp only [AV.conc]
          rw [hrun]
          simp only [ACap.conc, bytesOf_size, Env.with_blk, Env.with_base, Env.with_cap, Nat.add_zero, Nat.sub_zero]
          rfl
        · exact ⟨more_one, more_one, by rw [Env.with_cap, Nat.zero_add]; exact hcap⟩
      · cases h
    · cases h
  · rename_i t h1 h2
    rw [h1] at hrs
    rw [h2] at hrd
    cases (show ds = .pointer t from hrs)
    cases (show dd = .unsafePointer from hrd)
    split at h
    · rename_i b o hx
      obtain ⟨e1, e2⟩ := evalO_some htm hx
      split at h
      · cases h
      rename_i j hj
      cases hz : Nat.beq j.size 0 with
      | true => rw [hz] at h; cases h
      | false =>
        rw [hz, cond_false] at h
        have hz' := Nat.ne_of_beq_eq_false hz
        split at h
        · cases h
        rename_i cs hcs
        split at h
        · rename_i c hc
          simp only [Option.some.injEq] at h
          subst h
          refine .inl ⟨_, rfl, ?_, e2⟩
          rw [nth_eq] at hc
          unfold cellsAt at hcs
          split at hcs
          · rename_i cs0 e0 ex wr u hb
            simp only [Option.some.injEq] at hcs
            subst hcs
            obtain ⟨cs', fr, q1, q2, q3, _⟩ := hi.cells hb
            have hlt := (Array.getElem?_eq_some_iff.1 (q2.cell o c hc)).1
            have hge : ¬ (ρ.base b + o ≥ cs'.size) := by omega
            rw [e1]
            simp only [AV.conc, convert, Sem.run_bind, run_underlying' hds, run_underlying' hdd, Result.andThen_ok, Conv.unsafePointer, Conv.seenAt, run_viewAt q1, Sem.run_pure, run_cellsIn q1, (hC.ty _ _ hj).run_size]
            simp [hge, hz']
          · cases hcs
        · cases h
    · cases h
  · rename_i t h1 h2
    rw [h1] at hrs
    rw [h2] at hrd
    cases (show ds = .unsafePointer from hrs)
    cases (show dd = .pointer t from hrd)
    split at h
    · rename_i b o hx
      obtain ⟨e1, e2⟩ := evalO_some htm hx
      split at h
      · rename_i cs e wr u hb
        split at h
        · cases h
        rename_i j hj
        cases hz : (Nat.beq e t && Nat.beq o 0 && Nat.blt 0 j.size && Nat.ble j.size (lenL cs 0)) with
        | false => rw [hz] at h; cases h
        | true =>
          rw [hz, cond_true] at h
          simp only [Bool.and_eq_true, Nat.beq_eq, Nat.blt_eq, Nat.ble_eq, lenL_eq, Nat.add_zero] at hz
          obtain ⟨⟨⟨rfl, rfl⟩, z3⟩, z4⟩ := hz
          simp only [Option.some.injEq] at h
          subst h
          obtain ⟨cs', fr, q1, q2, q3, _⟩ := hi.cells hb
          obtain ⟨x1, x2⟩ := q2.exact rfl
          obtain ⟨inf, i1, i2, _⟩ := (hC.ty _ _ hj).info
          have hco : C.P.cellsOf e = j.size := by simp [Program.cellsOf, i1, i2]
          have hl := lies C.P hco z3 (count := cs'.size) (by omega)
          refine .inl ⟨_, rfl, ?_, e2⟩
          rw [e1]
          simp only [AV.conc, convert, Sem.run_bind, run_underlying' hds, run_underlying' hdd, Result.andThen_ok, Conv.unsafePointer, Conv.seenAt, run_viewAt q1, Sem.run_pure, (hC.ty _ _ hj).run_size, variablesAt, run_program, run_shape, World.shape?, q1, x1, hl]
          simp
      · cases h
    · cases h
  · cases h

end convs
end Go.Ev
