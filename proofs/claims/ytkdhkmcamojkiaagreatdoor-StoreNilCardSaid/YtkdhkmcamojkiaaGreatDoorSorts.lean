/- slices.Sorted of maps.Keys: the evaluator's keys are what the kit's contract hands back. -/
import Derived.Test.YtkdhkmcamojkiaaGreatDoorRegion
import Derived.Maps.Own
import Derived.Sort.KeysCollected
import Derived.Sort.Walk0
namespace Go.Ev
open Go.ChangeMaps Go.MapKept Go.RowKit
open Go.WideShapes (sorted_perm)
open Go.WideElems (Fit rd rg rd_mk rg_of)
open Go.Proofs (encStr)

def bys (s : List Nat) : List UInt8 := s.map UInt8.ofNat

theorem bytesOf_enc (s : List Nat) : Value.string (bytesOf s) = encStr (bys s) := rfl

theorem insertS_perm (x : List Nat) : ∀ l, (insertS x l).Perm (x :: l)
  | [] => .refl _
  | y :: ys => by
    simp only [insertS]
    cases ltL y x with
    | true => exact ((insertS_perm x ys).cons y).trans (.swap x y ys)
    | false => exact .refl _

theorem sortedKeys_some : ∀ {es : List (AV × AV × Nat)} {ks : List (List Nat)}, sortedKeys es = some ks → ∃ kl, es.map (·.1) = kl.map AV.str ∧ ks.Perm kl
  | [], ks, h => by
    simp only [sortedKeys, Option.some.injEq] at h
    subst h
    exact ⟨[], rfl, .refl _⟩
  | (k, v, b) :: es, ks, h => by
    cases k <;> simp only [sortedKeys, reduceCtorEq] at h
    rename_i s
    split at h
    · rename_i r hr
      simp only [Option.some.injEq] at h
      subst h
      obtain ⟨kl, h1, h2⟩ := sortedKeys_some hr
      exact ⟨s :: kl, by simp [h1], (insertS_perm s r).trans (h2.cons s)⟩
    · cases h

theorem ltL_lt {a b : List Nat} (h : ltL a b = true) : bys a < bys b := by
  rw [ltL_eq, Go.Proofs.bytesLess_eq, decide_eq_true_eq] at h
  exact h

theorem incrS_pairwise : ∀ {ks : List (List Nat)}, incrS ks = true → ks.Pairwise fun a b => bys a < bys b
  | [], _ => .nil
  | k :: ks, h => by
    simp only [incrS, Bool.and_eq_true, List.all_eq_true] at h
    exact List.pairwise_cons.2 ⟨fun b hb => ltL_lt (h.1 b hb), incrS_pairwise h.2⟩

theorem bornsOk_spec : ∀ {es : List (AV × AV × Nat)} {c : Nat}, bornsOk es c = true → (∀ e ∈ es, e.2.2 < c) ∧ (es.map (·.2.2)).Nodup
  | [], _, _ => ⟨fun _ h => (nomatch h), .nil⟩
  | e :: es, c, h => by
    simp only [bornsOk, Bool.and_eq_true, List.all_eq_true, Bool.not_eq_true'] at h
    obtain ⟨⟨h1, h2⟩, h3⟩ := h
    obtain ⟨q1, q2⟩ := bornsOk_spec h3
    rw [Nat.blt_eq] at h1
    refine ⟨fun e' he' => ?_, ?_⟩
    · rcases List.mem_cons.1 he' with rfl | he'
      · exact h1
      · exact q1 e' he'
    · rw [List.map_cons, List.nodup_cons]
      refine ⟨fun hm => ?_, q2⟩
      obtain ⟨e', he', heq⟩ := List.mem_map.1 hm
      exact Nat.ne_of_beq_eq_false (h2 e' he') heq

section sorts
variable {C : Ctx} {ρ : Env} {p : Nat → Prop} {hp : Heap} {w w' : World}

theorem Step.of_below (h : Inv C ρ p hp w) (hb : Below w.heap.size w w') : Step C ρ p hp w ρ p hp w' := by
  refine ⟨⟨fun id o ho => ?_, h.inj, h.own, fun b hlt => ?_, Nat.le_trans h.size hb.size, h.atom⟩, .refl _ _, fun _ x => x, hb.size, fun b hlt _ => hb.block b hlt, fun id o ho => .inr ⟨id, o, ho, rfl⟩, hb.tape, hb.os, hb.output⟩
  · obtain ⟨q1, q2, o', q3, q4⟩ := h.sat id o ho
    exact ⟨q1, q2, o', by rw [hb.block _ (h.lt ho)]; exact q3, q4⟩
  · rw [hb.block b (Nat.lt_of_lt_of_le hlt h.size)]
    exact h.old b hlt

/-- A new block, wherever it lies among the new ones. -/
theorem Step.alloc_at (h : Inv C ρ p hp w) {n : Nat} (hn : ¬ p n) {ob : AObj} {o : Obj} {g c : Nat} (hb : Below w.heap.size w w') (hg : w.heap.size ≤ g)
    (he : w'.heap[g]? = some o) (hr : ObjRel (ρ.with n g 0 c) n ob o) (hok : ob.ok (ρ.with n g 0 c) (more p n (n + 1))) :
    Step C ρ p hp w (ρ.with n g 0 c) (more p n (n + 1)) (hp.set n (some ob)) w' := by
  have ha := Env.with_agree (p := p) (ρ := ρ) hn g 0 c
  refine ⟨⟨fun i x hx => ?_, fun i i' x x' hx hx' hbl => ?_, fun i x hx => ?_, fun b hlt => ?_, Nat.le_trans h.size hb.size, h.atom⟩, ha, fun _ => more_left, hb.size, fun b hlt _ => hb.block b hlt, fun i x hx => ?_, hb.tape, hb.os, hb.output⟩
  · by_cases e : i = n
    · subst e
      rw [PT.get_set_same] at hx
      simp only [Option.some.injEq] at hx
      subst hx
      exact ⟨more_one, hok, o, by rw [Env.with_blk]; exact he, hr⟩
    · rw [PT.get_set_ne _ _ e] at hx
      obtain ⟨a, b', y, hy, hyr⟩ := h.sat i x hx
      exact ⟨more_left a, AObj.ok_mono ha (fun _ => more_left) _ b', y, by rw [(ha.2 i a).1, hb.block _ (h.lt hx)]; exact hy, hyr.congr ha a b'⟩
  · by_cases e : i = n
    · subst e
      by_cases e' : i' = i
      · exact e'.symm
      · rw [PT.get_set_ne _ _ e'] at hx'
        rw [Env.with_blk, (ha.2 i' (h.sat _ _ hx').1).1] at hbl
        have := h.lt hx'
        omega
    · rw [PT.get_set_ne _ _ e] at hx
      by_cases e' : i' = n
      · subst e'
        rw [Env.with_blk, (ha.2 i (h.sat _ _ hx).1).1] at hbl
        have := h.lt hx
        omega
      · rw [PT.get_set_ne _ _ e'] at hx'
        rw [(ha.2 i (h.sat _ _ hx).1).1, (ha.2 i' (h.sat _ _ hx').1).1] at hbl
        exact h.inj _ _ _ _ hx hx' hbl
  · by_cases e : i = n
    · subst e; rw [Env.with_blk]; exact Nat.le_trans h.size hg
    · rw [PT.get_set_ne _ _ e] at hx; rw [(ha.2 i (h.sat _ _ hx).1).1]; exact h.own _ _ hx
  · rw [hb.block b (Nat.lt_of_lt_of_le hlt h.size)]; exact h.old b hlt
  · by_cases e : i = n
    · subst e; exact .inl (by rw [Env.with_blk]; exact hg)
    · rw [PT.get_set_ne _ _ e] at hx; exact .inr ⟨i, x, hx, by rw [(ha.2 i (h.sat _ _ hx).1).1]⟩

/-- The kit's contract, as it is used. -/
def SortHas (C : Ctx) : Prop := ∀ (B b nn : Nat) (D0 : DataW Unit) (R : Value → Option (DataW Unit × List MemPlace)) (w : World), B < w.heap.size → w.cell? ⟨B, 0, none⟩ = some (.map (some b)) → w.ownsMap C.P C.T.strT R b nn D0 → Maps.size D0 ≤ maxLen → Maps.size D0 * 16 ≤ 140737488355328 →
  CallsIn Fence.wide 5 C.P C.T.sorted #[.func (.func C.T.keysOf) #[] #[.pointer (some ⟨B, 0, none⟩)]] w fun e w' => ∃ (v : Value) (ss : List (List UInt8)), e = .returned v ∧ ss.Perm (strKeys D0) ∧
    w'.ownsRow w.heap.size C.T.strT 1 v ss.length ((ss.mergeSort (fun x y => decide (x ≤ y))).map encStr) ∧ (v = .slice none 0 0 ↔ ss = []) ∧ Below w.heap.size w w'

theorem sort_ok (hbody : ∃ i, C.P.funcs[C.T.sorted]? = some i ∧ i.body.isSome = true) (hstr : C.P.underlying C.T.strT = some .string) (hcon : SortHas C) : SortOk C := by
  intro args hp nx r h
  unfold sortedA at h
  split at h
  rotate_left
  · cases h
  rename_i f b
  cases hf : Nat.beq f C.T.keysOf with
  | false => rw [hf] at h; cases h
  | true =>
  rw [hf, cond_true] at h
  have hf := Nat.eq_of_beq_eq_true hf
  subst hf
  split at h
  rotate_left
  · cases h
  rename_i m e0 wr0 u0 hb
  split at h
  rotate_left
  · cases h
  rename_i es clock hm
  cases hck : (bornsOk es clock && Nat.ble (lenL es 0) 1048576) with
  | false => rw [hck] at h; cases h
  | true =>
  rw [hck, cond_true] at h
  rw [Bool.and_eq_true, Nat.ble_eq, lenL_eq] at hck
  obtain ⟨hborn, hlen⟩ := hck
  split at h
  · cases h
  rename_i ks hks
  cases hinc : (incrS ks && ks.all (fun k => Nat.ble (lenL k 0) 1048576)) with
  | false => rw [hinc] at h; cases h
  | true =>
  rw [hinc, cond_true] at h
  rw [Bool.and_eq_true, List.all_eq_true] at hinc
  obtain ⟨hinc, hkl⟩ := hinc
  obtain ⟨kl, hkeys, hperm⟩ := sortedKeys_some hks
  have hpw := incrS_pairwise hinc
  obtain ⟨hb1, hb2⟩ := bornsOk_spec hborn
  have hsizes : ∀ s ∈ kl, s.length ≤ 1048576 := fun s hs => by
    have := hkl s (hperm.mem_iff.2 hs)
    rw [Nat.ble_eq, lenL_eq] at this
    omega
  have hmax : 1048576 ≤ maxLen := by decide
  -- what the contract says in any such world
  have main : ∀ (n : Nat) (ρ : Env) (p : Nat → Prop) (w : World), Inv C ρ p hp w → CallsIn Fence.wide n C.P C.T.sorted (concs ρ [.func C.T.keysOf [.ptr b 0]]).toArray w fun e w' => ∃ v, e = .returned v ∧ Below w.heap.size w w' ∧
      w'.ownsRow w.heap.size C.T.strT 1 v ks.length ((ks.map bys).map encStr) ∧ (v = .slice none 0 0 ↔ ks = []) := by
    intro n ρ p w hi
    obtain ⟨_, _, ob, hob, hrel⟩ := hi.sat b _ hb
    obtain ⟨cs', fr, rfl, hcr⟩ := hrel
    obtain ⟨_, _, om, hom, hmrel⟩ := hi.sat m _ hm
    simp only [ObjRel] at hmrel
    subst hmrel
    have hbase := (hcr.exact rfl).1
    have hcell := hcr.cell 0 (.map m) rfl
    rw [hbase] at hcell
    let R : Value → Option (DataW Unit × List MemPlace) := fun _ => some (.nil, [])
    have hkey : ∀ s : List Nat, s ∈ kl → keyOf C.P C.T.strT ((AV.str s).conc ρ) = some (.string (bys s)) := by
      intro s hs
      have hl : (bytesOf s).size ≤ maxLen := by
        have : (bytesOf s).size = s.length := by simp [bytesOf, ByteArray.size]
        have := hsizes s hs
        omega
      simp only [keyOf, hstr, mapKey, AV.conc, if_pos hl]
      simp [bytesOf, bys]
    have hmem : ∀ e ∈ es, ∃ s ∈ kl, e.1 = AV.str s := by
      intro e he
      have : e.1 ∈ es.map (·.1) := List.mem_map.2 ⟨e, he, rfl⟩
      rw [hkeys] at this
      obtain ⟨s, hs, h⟩ := List.mem_map.1 this
      exact ⟨s, hs, h.symm⟩
    have hrd : ∀ e ∈ es, ∃ s ∈ kl, e.1 = AV.str s ∧ rd C.P C.T.strT R (entryOf ρ e) = some (.string (bys s), .nil) := by
      intro e he
      obtain ⟨s, hs, h⟩ := hmem e he
      refine ⟨s, hs, h, ?_⟩
      have := rd_mk (P := C.P) (k := C.T.strT) (R := R) (key := e.1.conc ρ) (val := e.2.1.conc ρ) (born := e.2.2) (kl := .string (bys s)) (yv := (.nil, [])) (by rw [h]; exact hkey s hs) rfl
      exact this
    have hnd : (kl.map bys).Nodup := by
      have h1 : (ks.map bys).Nodup := List.pairwise_map.2 (hpw.imp fun {a b} hlt heq => by rw [heq] at hlt; exact List.lt_irrefl _ hlt)
      exact (hperm.map bys).nodup_iff.1 h1
    have hknd : (es.map fun e => e.1.conc ρ).Nodup := by
      have : (es.map fun e => e.1.conc ρ) = kl.map fun s => encStr (bys s) := by
        rw [show (es.map fun e => e.1.conc ρ) = (es.map (·.1)).map (AV.conc ρ) by simp, hkeys, List.map_map]
        rfl
      rw [this]
      have h2 : (kl.map fun s => encStr (bys s)) = (kl.map bys).map encStr := by simp
      rw [h2]
      exact List.pairwise_map.2 (hnd.imp fun {a b} hne heq => hne (encStr_inj heq))
    have hfit : Fit C.P C.T.strT R (es.map (entryOf ρ)).toArray clock := by
      refine ⟨by simp; omega, ⟨fun x hx => ?_, ?_, ?_⟩, fun x hx => ?_⟩
      · rw [List.toList_toArray] at hx
        obtain ⟨e, he, rfl⟩ := List.mem_map.1 hx
        exact hb1 e he
      · simpa [entryOf, Function.comp_def] using hb2
      · simpa [entryOf, Function.comp_def] using hknd
      · rw [List.toList_toArray] at hx
        obtain ⟨e, he, rfl⟩ := List.mem_map.1 hx
        obtain ⟨s, _, _, h⟩ := hrd e he
        exact ⟨_, h⟩
    have hown : w.ownsMap C.P C.T.strT R (ρ.blk m) es.length (.map (((es.map (entryOf ρ)).toArray.toList.map (rg C.P C.T.strT R)).foldr DataW.insert [])) :=
      ⟨_, clock, hom, hfit, by simp, rfl⟩
    have hkeysD : (strKeys (.map (((es.map (entryOf ρ)).toArray.toList.map (rg C.P C.T.strT R)).foldr DataW.insert []))).Perm (ks.map bys) := by
      have h1 : strKeys (H := Unit) (.map (((es.map (entryOf ρ)).toArray.toList.map (rg C.P C.T.strT R)).foldr DataW.insert [])) = (((es.map (entryOf ρ)).toArray.toList.map (rg C.P C.T.strT R)).foldr DataW.insert []).map fun p => strOf p.1 := rfl
      rw [h1]
      refine ((sorted_perm _).map _).trans ?_
      have h2 : (((es.map (entryOf ρ)).toArray.toList.map (rg C.P C.T.strT R)).map fun p => strOf p.1) = kl.map bys := by
        have : kl.map bys = (kl.map AV.str).map fun v => match v with | .str s => bys s | _ => [] := by simp
        rw [this, ← hkeys]
        simp only [List.map_map]
        refine List.map_congr_left fun e he => ?_
        obtain ⟨s, _, h, hrd⟩ := hrd e he
        simp only [Function.comp, rg_of hrd, h, strOf]
      rw [h2]
      exact (hperm.map bys).symm
    have hsz : Maps.size (H := Unit) (.map (((es.map (entryOf ρ)).toArray.toList.map (rg C.P C.T.strT R)).foldr DataW.insert [])) = es.length := by
      rw [Maps.size_eq, (sorted_perm _).length_eq]
      simp
    have hc := hcon (ρ.blk b) (ρ.blk m) _ _ R w (hi.lt hb) (by simp only [World.cell?, hob]; simpa [AV.conc] using hcell) hown (by rw [hsz]; omega) (by rw [hsz]; omega)
    have hargs : (concs ρ [.func C.T.keysOf [.ptr b 0]]).toArray = #[.func (.func C.T.keysOf) #[] #[.pointer (some ⟨ρ.blk b, 0, none⟩)]] := by
      simp [concs, AV.conc, hbase]
    rw [hargs]
    refine CallsIn.mono (callsIn_wide.2 (callsIn_wide.1 hc)) fun e w' he => ?_
    obtain ⟨v, ss, rfl, hss, hrow, hnil, hbel⟩ := he
    have hss := hss.trans hkeysD
    have hms : ss.mergeSort (fun x y => decide (x ≤ y)) = ks.map bys := by
      have h1 : ss.mergeSort leB = (ks.map bys).mergeSort leB := mergeSort_of_perm hss
      have h2 : (ks.map bys).mergeSort leB = ks.map bys := by
        refine List.mergeSort_of_pairwise (List.pairwise_map.2 (hpw.imp fun {a b} hlt => ?_))
        simp only [leB, decide_eq_true_eq]
        exact List.le_of_lt hlt
      exact h1.trans h2
    rw [hms] at hrow
    have hl : ss.length = ks.length := by rw [hss.length_eq]; simp
    rw [hl] at hrow
    refine ⟨v, rfl, hbel, hrow, hnil.trans ?_⟩
    rw [← List.length_eq_zero_iff, hl, List.length_eq_zero_iff]
  split at h
  · simp only [Option.some.injEq] at h
    subst h
    refine ⟨_, _, _, rfl, Nat.le_refl _, hbody, fun n ρ p w hi hfr hok => CallsIn.mono (main n ρ p w hi) fun e w' he => ?_⟩
    obtain ⟨v, rfl, hbel, _, hnil⟩ := he
    rw [hnil.2 rfl]
    exact ⟨ρ, rfl, trivial, by rw [more_refl]; exact Step.of_below hi hbel⟩
  · rename_i k ks'
    rw [strCells_eq] at h
    simp only [setObj, PT.setK_eq, natK_eq, Option.some.injEq] at h
    subst h
    refine ⟨_, _, _, rfl, Nat.le_succ _, hbody, fun n ρ p w hi hfr hok => CallsIn.mono (main n ρ p w hi) fun e w' he => ?_⟩
    obtain ⟨v, rfl, hbel, hrow, hnil⟩ := he
    rcases hrow.2 with ⟨rfl, hz⟩ | ⟨g, cap, cur, rfl, hge, hg, q1, q2, q3, q4⟩
    · exact absurd hz (by simp)
    · have hn : ¬ p nx := hfr nx (Nat.le_refl _)
      refine ⟨ρ.with nx g 0 cap, ?_, ?_, Step.alloc_at hi hn hbel hge hg ⟨cur, (0, 0), rfl, ⟨fun i x hx => ?_, fun h => (nomatch h), fun _ => ?_, fun _ off _ h => ?_⟩⟩ fun x hx => ?_⟩
      · simp only [AV.conc, ACap.conc, Env.with_blk, Env.with_base, Env.with_cap, lenL_eq, Nat.add_zero, Nat.sub_zero]
      · refine ⟨more_one, more_one, ?_⟩
        rw [Env.with_cap, lenL_eq]
        omega
      · rw [Env.with_base, Nat.zero_add]
        rw [List.getElem?_map, Option.map_eq_some_iff] at hx
        obtain ⟨s, hs, rfl⟩ := hx
        have h1 : ((k :: ks').map bys).map encStr = cur.toList.take ((k :: ks').length * 1) := q4.symm
        have h2 : (cur.toList.take ((k :: ks').length * 1))[i]? = some (encStr (bys s)) := by
          rw [← h1, List.getElem?_map, List.getElem?_map, hs]
          rfl
        have hil : i < (k :: ks').length := (List.getElem?_eq_some_iff.1 hs).1
        rw [List.getElem?_take_of_lt (by omega)] at h2
        rw [← Array.getElem?_toList]
        exact h2
      · rw [Env.with_base, Env.with_cap, Nat.zero_add]
        exact q3
      · simp only at h
        omega
      · obtain ⟨s, _, rfl⟩ := List.mem_map.1 hx
        trivial

end sorts
end Go.Ev
