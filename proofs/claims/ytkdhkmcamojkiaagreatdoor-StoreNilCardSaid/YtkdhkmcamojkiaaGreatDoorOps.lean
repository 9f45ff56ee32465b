/- What the evaluator knows of the program holds of it; operations that make and turn nothing. -/
import Derived.Test.YtkdhkmcamojkiaaGreatDoorInv
import Derived.Laws.Sem
import Derived.Laws.Cells
namespace Go.Ev

def isAggB (P : Program) (t : Nat) : Bool := match P.underlying t with
  | some (.struct _) => true
  | some (.array _ _) => true
  | _ => false

def TyD.rel (P : Program) : TyD → TypeDesc → Prop
  | .bool, d => d = .bool
  | .int k, d => d = .int k
  | .string, d => d = .string
  | .slice e, d => d = .slice e
  | .array n e, d => d = .array n e
  | .struct fs, d => ∃ fields : Array Field, d = .struct fields ∧ fs.length = fields.size ∧
      ∀ (i : Nat) f, fields[i]? = some f → ∃ size agg, fs[i]? = some (f.offset, size, agg) ∧ (∃ inf, P.info? f.type = some inf ∧ inf.size = size) ∧ isAggB P f.type = agg ∧ ∃ d, P.underlying f.type = some d
  | .map k e, d => d = .map k e
  | .ptr e, d => d = .pointer e
  | .func, d => ∃ a b c, d = .func a b c
  | .iface, d => ∃ ms, d = .interface ms
  | .uptr, d => d = .unsafePointer
  | .other, d => ∀ ms, d ≠ .interface ms

structure TyOk (P : Program) (t : Nat) (i : TyI) : Prop where
  info : ∃ inf, P.info? t = some inf ∧ inf.size = i.size ∧ inf.bytes = i.bytes ∧ inf.comparable = i.cmp ∧ ∀ ρ, inf.zero = some ((zeroOf i).conc ρ)
  len : i.zero.length = i.size
  ground : grounds i.zero = true
  zero : (i.agg = true ∧ zeroOf i = .agg i.zero) ∨ (i.agg = false ∧ ∃ v, i.zero = [v] ∧ zeroOf i = v ∧ oneCell v = true)
  agg : isAggB P t = i.agg
  desc : ∃ d, P.underlying t = some d ∧ TyD.rel P i.desc d

/-- What a call of a function without a body here comes to, as the model has it. -/
def extOf : Ext → Array Value → Sem Value
  | .same => Extern.AbiNoEscape.same
  | .count => Extern.BytealgCount.count
  | .cmp => Extern.BytealgCompare.compare

structure Ctx.Ok (C : Ctx) : Prop where
  ty : ∀ t i, C.T.ty t = some i → TyOk C.P t i
  funcs : C.T.funcs = C.P.funcs.toList
  ext : ∀ f e, C.T.ext f = some e → ∃ fn, C.P.funcs[f]? = some fn ∧ fn.body = none ∧ fn.name ≠ "runtime.NumGoroutine" ∧ Extern.findNext fn = none ∧ Extern.find fn = some (extOf e)
  glob : ∀ g cs, C.T.glob g = some cs → g < C.w0.heap.size ∧ (∀ v ∈ cs, ∀ ρ p, v.ok ρ p) ∧ ∃ cs' e fr, C.w0.heap[g]? = some (.cells cs' e fr) ∧ ∀ (i : Nat) v, cs[i]? = some v → ∀ ρ : Env, ρ.atom = C.atom → cs'[i]? = some (v.conc ρ)
  names : ∀ (f : Nat) fn, C.P.funcs[f]? = some fn → fn.body.isSome = true → fn.name ≠ "runtime.NumGoroutine"
  mixed : C.P.follows .mixedOrders = true
  fine : ∀ k, (C.atom k).oneCell' = true
  nobool : ∀ k b, C.atom k ≠ .bool b

section types
variable {P : Program} {t : Nat} {i : TyI} {w : World}
theorem TyOk.run_size (h : TyOk P t i) : (sizeOf t).run P w = .ok i.size w := by
  obtain ⟨inf, h1, h2, _⟩ := h.info
  simp [sizeOf, typeInfo, h1, h2]
theorem TyOk.run_info (h : TyOk P t i) : ∃ inf, (typeInfo t).run P w = .ok inf w ∧ inf.size = i.size ∧ inf.bytes = i.bytes ∧ inf.comparable = i.cmp := by
  obtain ⟨inf, h1, h2, h3, h4, _⟩ := h.info
  exact ⟨inf, by simp [typeInfo, h1], h2, h3, h4⟩
theorem TyOk.run_zero (h : TyOk P t i) (ρ : Env) : (zeroValue t).run P w = .ok ((zeroOf i).conc ρ) w := by
  obtain ⟨inf, h1, _, _, _, h5⟩ := h.info
  simp [zeroValue, typeInfo, h1, h5 ρ]
theorem TyOk.run_agg (h : TyOk P t i) : (isAgg t).run P w = .ok i.agg w := by
  obtain ⟨d, hd, _⟩ := h.desc
  have ha := h.agg
  unfold isAggB at ha
  rw [hd] at ha
  unfold isAgg underlying
  simp only [Sem.run_bind, run_program, Result.andThen_ok, hd, Sem.run_pure]
  rw [← ha]
  cases d <;> rfl
theorem run_underlying' {d : TypeDesc} (h : P.underlying t = some d) : (underlying t).run P w = .ok d w := by
  simp [underlying, h]
theorem TyOk.zero_cells (h : TyOk P t i) (ρ : Env) : ((zeroOf i).conc ρ).cells = (concs ρ i.zero).toArray := by
  rcases h.zero with ⟨_, hz⟩ | ⟨_, v, hl, hz, hv⟩
  · rw [hz]; rfl
  · rw [hz, hl]
    cases v <;> first | rfl | (simp [oneCell] at hv; done) | skip
    · rename_i k
      have := h.ground
      rw [hl] at this
      simp [grounds, AV.ground] at this
theorem TyOk.zero_ok (h : TyOk P t i) (ρ : Env) (p : Nat → Prop) : (zeroOf i).ok ρ p ∧ ∀ v ∈ i.zero, v.ok ρ p := by
  have hg := (oks_iff ρ p i.zero).1 (grounds_ok ρ p i.zero h.ground)
  refine ⟨?_, hg⟩
  rcases h.zero with ⟨_, hz⟩ | ⟨_, v, hl, hz, _⟩
  · rw [hz]; exact grounds_ok ρ p i.zero h.ground
  · rw [hz]; exact hg v (by simp [hl])
end types

theorem concs_get (ρ : Env) (l : List AV) (i : Nat) : (concs ρ l)[i]? = (l[i]?).map (AV.conc ρ) := by
  simp [concs_eq]
theorem concs_extract (ρ : Env) (l : List AV) (off n : Nat) : (concs ρ l).toArray.extract off (off + n) = (concs ρ ((l.drop off).take n)).toArray := by
  simp only [concs_eq, List.extract_toArray, List.extract_eq_take_drop, List.map_take, List.map_drop]
  congr 2
  omega

/-- A part of a struct's cells. -/
theorem partA_sound {P : Program} {w : World} {ρ : Env} {p : Nat → Prop} {l : List AV} {off size : Nat} {agg : Bool} {v : AV} {t : Nat} (h : partA l off size agg = some v)
    (ha : (isAgg t).run P w = .ok agg w) (hs : (sizeOf t).run P w = .ok size w) (hl : ∀ v ∈ l, v.ok ρ p) : (part t (concs ρ l).toArray off).run P w = .ok (v.conc ρ) w ∧ v.ok ρ p := by
  unfold partA at h
  unfold part
  cases agg with
  | true =>
    simp only [cond_true, takeK_eq, dropN_eq] at h
    cases ht : takeL (l.drop off) size with
    | none => rw [ht] at h; cases h
    | some r =>
      rw [ht] at h
      simp only [Option.some.injEq] at h
      subst h
      obtain ⟨_, rfl⟩ := takeL_some ht
      refine ⟨?_, (oks_iff _ _ _).2 fun v hv => hl v (List.mem_of_mem_drop (List.mem_of_mem_take hv))⟩
      simp only [Sem.run_bind, ha, hs, AV.conc, concs_extract, Result.andThen_ok, Sem.run_pure, if_true]
  | false =>
    simp only [cond_false, nth_eq] at h
    refine ⟨?_, hl v (List.mem_of_getElem? h)⟩
    simp [ha, concs_get, h]

section ops
variable {C : Ctx} {ρ : Env} {p : Nat → Prop} {tm : PT AV} {sz : Nat} {a : Act} {hp : Heap} {w : World}

theorem aField_sound (hC : C.Ok) (htm : Tm ρ p tm sz a.tmps) {s f : Nat} {x : Operand} {v : AV} (h : aField C.T tm s x f = some v) :
    (Instr.field s (a.eval x) f).run C.P w = .ok (v.conc ρ) w ∧ v.ok ρ p := by
  unfold aField at h
  split at h
  · cases h
  rename_i i hi
  obtain ⟨d, hd, hrel⟩ := (hC.ty _ _ hi).desc
  split at h
  · rename_i fs hfs
    rw [hfs] at hrel
    obtain ⟨fields, rfl, hlen, hf⟩ := hrel
    rw [nth_eq] at h
    split at h
    · cases h
    rename_i off size agg hnth
    have hlt : f < fields.size := by rw [← hlen]; exact (List.getElem?_eq_some_iff.1 hnth).1
    obtain ⟨size', agg', h1, ⟨inf, h2, h2'⟩, h3, d', h4⟩ := hf f fields[f] (by simp [hlt])
    rw [hnth] at h1
    simp only [Option.some.injEq, Prod.mk.injEq] at h1
    obtain ⟨rfl, rfl, rfl⟩ := h1
    split at h
    · rename_i cs hcs
      obtain ⟨h5, h6⟩ := evalO_some htm hcs
      have hagg : (isAgg fields[f].type).run C.P w = .ok (isAggB C.P fields[f].type) w := by
        unfold isAgg isAggB underlying
        simp only [Sem.run_bind, run_program, Result.andThen_ok, h4, Sem.run_pure]
        cases d' <;> rfl
      have hsz : (sizeOf fields[f].type).run C.P w = .ok size w := by simp [sizeOf, typeInfo, h2, h2']
      obtain ⟨h7, h8⟩ := partA_sound (ρ := ρ) (p := p) (w := w) (t := fields[f].type) h (h3 ▸ hagg) hsz ((oks_iff _ _ _).1 h6)
      refine ⟨?_, h8⟩
      unfold Instr.field
      have hfe : fields[f]? = some fields[f] := by simp [hlt]
      simp only [Sem.run_bind, run_underlying' hd, Result.andThen_ok, hfe, h5, AV.conc, asAgg, Sem.run_pure]
      exact h7
    · cases h
  · cases h

theorem aExtract_sound (htm : Tm ρ p tm sz a.tmps) {x : Operand} {ix : Nat} {v : AV} {P : Program} (h : aExtract tm x ix = some v) :
    (Instr.extract (a.eval x) ix).run P w = .ok (v.conc ρ) w ∧ v.ok ρ p := by
  unfold aExtract at h
  split at h
  · rename_i vs hvs
    obtain ⟨h1, h2⟩ := evalO_some htm hvs
    rw [nth_eq] at h
    refine ⟨?_, (oks_iff _ _ _).1 h2 v (List.mem_of_getElem? h)⟩
    rw [h1]
    simp [Instr.extract, AV.conc, concs_get, h]
  · cases h

theorem aFieldAddr_sound (hC : C.Ok) (htm : Tm ρ p tm sz a.tmps) {s f : Nat} {x : Operand} {v : AV} (h : aFieldAddr C.T tm s x f = some v) :
    (Instr.fieldAt s (a.eval x) f).run C.P w = .ok (v.conc ρ) w ∧ v.ok ρ p := by
  unfold aFieldAddr at h
  split at h
  · cases h
  rename_i i hi
  obtain ⟨d, hd, hrel⟩ := (hC.ty _ _ hi).desc
  split at h
  · rename_i fs hfs
    rw [hfs] at hrel
    obtain ⟨fields, rfl, hlen, hf⟩ := hrel
    rw [nth_eq] at h
    split at h
    · cases h
    rename_i off size agg hnth
    have hlt : f < fields.size := by rw [← hlen]; exact (List.getElem?_eq_some_iff.1 hnth).1
    obtain ⟨size', agg', h1, ⟨inf, h2, h2'⟩, h3, d', h4⟩ := hf f fields[f] (by simp [hlt])
    rw [hnth] at h1
    simp only [Option.some.injEq, Prod.mk.injEq] at h1
    obtain ⟨rfl, rfl, rfl⟩ := h1
    cases hz : Nat.beq size 0 with
    | true => rw [hz] at h; cases h
    | false =>
      have hz' := Nat.ne_of_beq_eq_false hz
      rw [hz] at h
      simp only [cond_false, natK_eq] at h
      split at h
      · rename_i b o hx
        obtain ⟨h5, h6⟩ := evalO_some htm hx
        simp only [Option.some.injEq] at h
        subst h
        refine ⟨?_, h6⟩
        unfold Instr.fieldAt
        have hfe : fields[f]? = some fields[f] := by simp [hlt]
        simp only [Sem.run_bind, run_underlying' hd, Result.andThen_ok, hfe, h5, AV.conc, Instr.sureAddr, Sem.run_pure]
        have hsz : (sizeOf fields[f].type).run C.P w = .ok size w := by simp [sizeOf, typeInfo, h2, h2']
        simp only [fieldPlace, Sem.run_bind, hsz, Result.andThen_ok, if_neg hz', Sem.run_pure]
        simp only [Addr.add]
        split
        · rename_i h0; simp [h0]
        · simp [Nat.add_assoc]
      · cases h
  · cases h

theorem addr_add (b o n : Nat) : (⟨b, o, none⟩ : Addr).add n = ⟨b, o + n, none⟩ := by
  simp only [Addr.add]
  split
  · rename_i h; simp [h]
  · rfl

theorem aIndexAddr_sound (hC : C.Ok) (htm : Tm ρ p tm sz a.tmps) {t : Nat} {x ix : Operand} {v : AV} (h : aIndexAddr C.T tm t x ix = some v) :
    (Instr.indexAt t (a.eval x) (a.eval ix)).run C.P w = .ok (v.conc ρ) w ∧ v.ok ρ p := by
  unfold aIndexAddr at h
  split at h
  · cases h
  rename_i i hi
  obtain ⟨d, hd, hrel⟩ := (hC.ty _ _ hi).desc
  split at h
  rotate_left
  · cases h
  rename_i k n hix
  obtain ⟨h1, _⟩ := evalO_some htm hix
  split at h
  · rename_i len e b o hdesc hx
    obtain ⟨h5, h6⟩ := evalO_some htm hx
    rw [hdesc] at hrel
    have hrel' : d = .array len e := hrel
    subst hrel'
    cases hb : Nat.blt n len with
    | false => rw [hb] at h; cases h
    | true =>
      rw [hb] at h
      rw [Nat.blt_eq] at hb
      simp only [cond_true, natK_eq] at h
      split at h
      · cases h
      rename_i j hj
      simp only [Option.some.injEq] at h
      subst h
      refine ⟨?_, h6⟩
      have hlt : (0 : Int) ≤ Int.ofNat n ∧ Int.ofNat n < (len : Int) := by
        simp only [Int.ofNat_eq_natCast]; omega
      simp only [Instr.indexAt, h1, AV.conc, asIntOf, Sem.run_bind, Sem.run_pure, Result.andThen_ok, run_underlying' hd, h5, Instr.sureAddr, if_pos hlt, (hC.ty _ _ hj).run_size,
        addr_add, Int.toNat, Nat.add_assoc]
  · rename_i e b o len cap hdesc hx
    obtain ⟨h5, h6⟩ := evalO_some htm hx
    rw [hdesc] at hrel
    have hrel' : d = .slice e := hrel
    subst hrel'
    cases hb : Nat.blt n len with
    | false => rw [hb] at h; cases h
    | true =>
      rw [hb] at h
      rw [Nat.blt_eq] at hb
      simp only [cond_true, natK_eq] at h
      split at h
      · cases h
      rename_i j hj
      simp only [Option.some.injEq] at h
      subst h
      refine ⟨?_, h6.1⟩
      have hlt : (0 : Int) ≤ Int.ofNat n ∧ Int.ofNat n < (len : Int) := by
        simp only [Int.ofNat_eq_natCast]; omega
      simp only [Instr.indexAt, h1, AV.conc, asIntOf, Sem.run_bind, Sem.run_pure, Result.andThen_ok, run_underlying' hd, h5, if_pos hlt, (hC.ty _ _ hj).run_size,
        addr_add, Int.toNat, Nat.add_assoc]
  · cases h

theorem bytesOf_size (s : List Nat) : (bytesOf s).size = s.length := by simp [bytesOf, ByteArray.size]
theorem bytesOf_get (s : List Nat) (n : Nat) : (bytesOf s)[n]? = (s[n]?).map UInt8.ofNat := by
  by_cases h : n < s.length
  · have h' : n < (bytesOf s).size := by rw [bytesOf_size]; exact h
    rw [getElem?_pos (bytesOf s) n h', getElem?_pos s n h]
    simp only [Option.map_some, Option.some.injEq]
    show (bytesOf s).data[n] = _
    simp [bytesOf]
  · have h' : ¬ n < (bytesOf s).size := by rw [bytesOf_size]; exact h
    rw [getElem?_neg (bytesOf s) n h', getElem?_neg s n h]
    rfl

theorem aIndex_sound (hC : C.Ok) (htm : Tm ρ p tm sz a.tmps) {t : Nat} {x ix : Operand} {v : AV} (h : aIndex C.T tm t x ix = some v) :
    (Instr.index t (a.eval x) (a.eval ix)).run C.P w = .ok (v.conc ρ) w ∧ v.ok ρ p := by
  unfold aIndex at h
  split at h
  · cases h
  rename_i i hi
  obtain ⟨d, hd, hrel⟩ := (hC.ty _ _ hi).desc
  split at h
  rotate_left
  · cases h
  rename_i k n hix
  obtain ⟨h1, _⟩ := evalO_some htm hix
  split at h
  · rename_i s hdesc hx
    obtain ⟨h5, _⟩ := evalO_some htm hx
    rw [hdesc] at hrel
    have hrel' : d = .string := hrel
    subst hrel'
    rw [nth_eq] at h
    split at h
    · cases h
    rename_i c hc
    simp only [natK_eq, Option.some.injEq] at h
    subst h
    refine ⟨?_, trivial⟩
    have h0 : (0 : Int) ≤ Int.ofNat n := by simp only [Int.ofNat_eq_natCast]; omega
    simp only [Instr.index, h1, AV.conc, asIntOf, Sem.run_bind, Sem.run_pure, Result.andThen_ok, run_underlying' hd, h5, if_pos h0, Int.toNat, bytesOf_get, hc, Option.map_some]
    simp
  · rename_i len e cs hdesc hx
    obtain ⟨h5, h6⟩ := evalO_some htm hx
    rw [hdesc] at hrel
    have hrel' : d = .array len e := hrel
    subst hrel'
    cases hb : Nat.blt n len with
    | false => rw [hb] at h; cases h
    | true =>
      rw [hb] at h
      rw [Nat.blt_eq] at hb
      simp only [cond_true] at h
      split at h
      · cases h
      rename_i j hj
      have hlt : (0 : Int) ≤ Int.ofNat n ∧ Int.ofNat n < (len : Int) := by
        simp only [Int.ofNat_eq_natCast]; omega
      obtain ⟨h7, h8⟩ := partA_sound (ρ := ρ) (p := p) (w := w) (t := e) h (hC.ty _ _ hj).run_agg (hC.ty _ _ hj).run_size ((oks_iff _ _ _).1 h6)
      refine ⟨?_, h8⟩
      simp only [Instr.index, h1, AV.conc, asIntOf, Sem.run_bind, Sem.run_pure, Result.andThen_ok, run_underlying' hd, h5, if_pos hlt, (hC.ty _ _ hj).run_size, Int.toNat]
      exact h7
  · cases h

end ops
end Go.Ev
