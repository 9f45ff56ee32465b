/- The card of 'bourselaw17.StoreNil': the statement 'Rows.StoreNilCardSaid'. Conditions: none of its own; the row takes the listed variables to read as the program's text lays them, which the given tie holds against that text. -/
import Derived.Test.YtkdhkmcamojkiaaGreatDoorChain
import Derived.Test.YtkdhkmcamojkiaaGreatDoorCards
import Derived.Test.YtkdhkmcamojkiaaGreatDoorTie
import Derived.Test.YtkdhkmcamojkiaaGreatDoorClA
import Derived.Test.YtkdhkmcamojkiaaGreatDoorClB
import Derived.Test.YtkdhkmcamojkiaaGreatDoorClC
import Derived.Test.YtkdhkmcamojkiaaGreatDoorClD
import Derived.Test.YtkdhkmcamojkiaaGreatDoorClE
import Derived.WalkKit
import Derived.ProofKit
import Derived.SizedLaws
import Derived.Lay
import Derived.LaidLaws
import Derived.Conc.Holds
import Derived.Leaving
import Derived.SevenTiedAt
namespace Go.Proofs.YtkdhkmcamojkiaaGreatDoor
open Go.ChangeShapes Go.WideShapes Go.RowKit

/-! ### A call of one goroutine, and a row that says 'leaving' -/
theorem leaving_of_lone {P : Program} {n : Nat} {m : Machine} {fr : Frame} {w w' : World} (h : runN P n m = .next (lone fr [] w)) : leavingAtReturn P (lone fr [] w) w' (runNT P (n + 1) m #[]).2 :=
  ⟨handedOver_of_lone h, onlyLeaving_of_quiet (quiet_lone ..), fun i g hg hi => by
    cases i with
    | zero => exact absurd rfl hi
    | succ k => simp [lone] at hg⟩

theorem leaving_of_calls {a : Assume} {C : Checked} {os : Os} {f : FuncId} {r : Reach} {Pre : World → Array Value → Prop} {Post : World → Array Value → Value → World → Prop}
    (own : ownKnob C.prog.godebug = none) (started : os.Started) (noInit : C.prog.inits.idxOf? f = none)
    (witness : ∃ (w : World) (tape : Tape) (i : Input), w.os = os ∧ (w.forCall tape i).Shaped C.prog ∧ i.vars = [] ∧ Input.okWide C.prog (w.forCall tape i) r w.heap.size f i ∧ Pre (w.forCall tape i).memory i.args ∧
      a.holds C.prog (lone (Frame.enter C.prog f i.args .normal) [] (w.forCall tape i)))
    (contract : ∀ (w : World) (tape : Tape) (i : Input), w.os = os → (w.forCall tape i).ShapedOpen C.prog → i.vars = [] → Input.okWide C.prog (w.forCall tape i) r w.heap.size f i → Pre (w.forCall tape i).memory i.args →
      a.holds C.prog (lone (Frame.enter C.prog f i.args .normal) [] (w.forCall tape i)) →
      Calls C.prog f i.args (w.forCall tape i) fun
        | .returned v, w' => Post (w.forCall tape i).blind i.args v w'.blind
        | _, _ => False) :
    ReturnsInLeavingWide a C os f r Pre Post := fun enter => by
  obtain ⟨w0, t0, i0, a1, a2, a3, a4, a5, a6⟩ := witness
  refine ⟨enter, own, started, ⟨w0, t0, i0, a1, a2, a3, a4, a5, a6, trivial⟩, fun w tape i h => ?_⟩
  obtain ⟨n, v, w', fr, hn, hend, hp⟩ := (contract w tape i h.1 h.2.1 h.2.2.1 h.2.2.2.1 h.2.2.2.2.1 h.2.2.2.2.2.1).done_lone noInit
  exact ⟨n + 1, v, w', hend, (clean_of_lone hn).2, roomy_placeholder .., hp, ⟨n, _, hn, step_of_runs hn hend, leaving_of_lone hn⟩, fun _ _ _ => trivial⟩

theorem leaving_of_change {H : Type} {enc : TypeId × Value → H} {a : Assume} {C : Checked} {os : Os} {f : FuncId} {fn : Func} {s : ChangeSpec} {conds : List PathCond} {apart fresh handsOn again : Bool} {X : World → Array Value → Prop}
    (hX : ∀ (w w' : World) (args : Array Value), w.heap = w'.heap → X w args → X w' args)
    (own : ownKnob C.prog.godebug = none) (started : os.Started) (noInit : C.prog.inits.idxOf? f = none) (hfn : C.prog.funcs[f]? = some fn)
    (witness : ∃ (w : World) (tape : Tape) (i : Input), w.os = os ∧ (w.forCall tape i).Shaped C.prog ∧ i.vars = [] ∧ Input.okWide C.prog (w.forCall tape i) .any w.heap.size f i ∧
      ((s.pre enc C.prog fn conds apart (w.forCall tape i).memory i.args ∧ X (w.forCall tape i).memory i.args) ∧ sizedMet enc C.prog fn (OpenSpec.ofChange s) apart (w.forCall tape i).memory i.args) ∧ a.holds C.prog (lone (Frame.enter C.prog f i.args .normal) [] (w.forCall tape i)))
    (contract : ∀ (W : World) (args : Array Value) (ds gs : List (DataW H)) (before : List MemPlace),
      DataW.Whole enc C.prog fn.params.toList s.vars apart W args.toList ds gs before → X W args →
      Calls C.prog f args W fun e W' => ∃ v, e = .returned v ∧ s.post enc C.prog fn apart fresh handsOn again W args v W') :
    ReturnsInLeavingWide a C os f .any (fun w args => (s.pre enc C.prog fn conds apart w args ∧ X w args) ∧ sizedMet enc C.prog fn (OpenSpec.ofChange s) apart w args) (s.post enc C.prog fn apart fresh handsOn again) := by
  refine leaving_of_calls own started noInit witness ?_
  intro w tape i _ _ _ hok hpre _
  obtain ⟨_, _, _, fn', hfn', _, _, _, _, _⟩ := hok
  have e : fn' = fn := Option.some.inj (hfn'.symm.trans hfn)
  subst e
  obtain ⟨⟨⟨ds, gs, before, hw, _⟩, hx⟩, _⟩ := hpre
  have hw' := DataW.Whole.of_heap (w' := w.forCall tape i) (by rfl) hw
  refine (contract (w.forCall tape i) i.args ds gs before hw' (hX _ _ _ (by rfl) hx)).mono fun e W' ⟨v, he, hp⟩ => ?_
  subst he
  exact ChangeSpec.post_blind hp

/-! ### This row -/
theorem own : ownKnob Tryz.prog.godebug = none := by kernel_rfl
theorem errName : Tryz.prog.globalNamed "strconv.ErrSyntax" = some 3 := by kernel_rfl
theorem errType : (Tryz.prog.globals[3]?).map (·.type) = some 229 := by kernel_rfl

/-- Out of the row's premise: what strconv.ErrSyntax holds is an error. -/
theorem err_of_laid {W : World} (h : laidMet Tryz.prog Rows.storeNilRow.laid W) : ∃ (u : TypeId) (v : Value) (ty : TypeId) (fr : Nat × Nat), W.heap[3]? = some (.cells #[.iface u v] ty fr) := by
  obtain ⟨ps, h, _, _⟩ := h
  obtain ⟨_, _, _, _, _, _, _, _, _, _, h, _⟩ := h
  obtain ⟨_, _, _, _, _, _, _, _, _, _, h, _⟩ := h
  obtain ⟨_, _, _, _, _, _, _, _, _, _, h, _⟩ := h
  obtain ⟨_, _, _, _, _, _, _, _, _, _, h, _⟩ := h
  obtain ⟨_, _, _, _, _, _, _, _, _, _, h, _⟩ := h
  obtain ⟨g, t, cs, fuel, p, q, hg, ht, hv, hd, _, _⟩ := h
  obtain rfl := Option.some.inj (errName.symm.trans hg)
  obtain rfl := Option.some.inj (errType.symm.trans ht)
  obtain ⟨_, u, v, hcs, _, _⟩ := iface_of_trod Tryz.underlying229 hd
  have hcs : cs = #[.iface u v] := by rw [← Array.toList_inj]; exact hcs
  subst hcs
  simp only [World.var?, hg, Option.bind_some] at hv
  split at hv
  · rename_i cs ty fr hw
    simp only [Option.some.injEq] at hv
    subst hv
    exact ⟨u, v, ty, fr, hw⟩
  · cases hv

set_option maxRecDepth 100000 in
theorem lifted (os : Os) (started : os.Started) (H : Type) (enc : TypeId × Value → H) :
    ReturnsInLeavingWide {} Tryz.checked os 3 .any (fun w args => (Rows.storeNilSpec.pre enc Tryz.prog Tryz.f3 [] false w args ∧ laidMetH Tryz.prog Rows.storeNilRow.laid w) ∧ sizedMet enc Tryz.prog Tryz.f3 (OpenSpec.ofChange Rows.storeNilSpec) false w args)
      (Rows.storeNilSpec.post enc Tryz.prog Tryz.f3 false true false false) := by
  refine leaving_of_change (C := Tryz.checked) (X := fun w _ => laidMetH Tryz.prog Rows.storeNilRow.laid w) (fun _ _ _ hh h => h.of_heap hh) own started (by kernel_rfl) Tryz.func3
    (ChangeSpec.witness_shaped (enc := enc) (C := Tryz.checked) (os := os) (X := fun w _ => laidMetH Tryz.prog Rows.storeNilRow.laid w) false (World.laidAll Tryz.prog os Rows.storeNilRow.laid) #[] 8 (World.laidAll_os _ _ _)
      (World.shaped_of_ZipB (by kernel_rfl) (by kernel_rfl)) (by kernel_rfl) (by kernel_rfl) (by kernel_rfl)
      (by rw [MakeChecks.laidMetH_plain _ _ _ (by kernel_rfl)]; exact laidMet_laidAll _ (by kernel_rfl) (by kernel_rfl))) ?_
  intro W args ds gs before hW hL
  have hW' := hW
  obtain ⟨p, q, hA0, hV, rfl, _, _⟩ := hW
  have hA : DataW.TrodAll enc Tryz.prog W 0 (fun _ => true) true [] args.toList ds p := hA0
  rw [MakeChecks.laidMetH_plain _ _ _ (by kernel_rfl)] at hL
  obtain ⟨u, v, ty, fr, hat⟩ := err_of_laid hL
  obtain ⟨rfl, rfl⟩ := trodVars_none hV
  obtain ⟨rfl, rfl, rfl⟩ := trodAll_none hA
  simp only [List.append_nil] at hW'
  refine (nil_calls hat).mono fun e W' ⟨he, hb⟩ => ?_
  subst he
  exact ⟨_, rfl, _, _, _, [], [], [], hW', trodAll_mk1 (shut_bool Tryz.underlying4 _), rfl, rfl, hb.frame _, fun h => by cases h⟩

set_option maxRecDepth 100000 in
theorem closed : joinedFacts Tryz.pinned.checked.prog 3 Tryz.f3 Rows.storeNilSpec Rows.storeNilRow = true := by
  unfold joinedFacts
  simp only [Bool.and_eq_true]
  exact ⟨⟨⟨⟨⟨⟨⟨⟨⟨⟨⟨⟨⟨⟨⟨⟨⟨⟨⟨⟨⟨⟨⟨⟨⟨⟨⟨⟨⟨⟨⟨fact0, fact1⟩, fact2⟩, fact3⟩, fact4⟩, fact5⟩, fact6⟩, fact7⟩, fact8⟩, fact9⟩, fact10⟩, fact11⟩, fact12⟩, fact13⟩, fact14⟩, fact15⟩, fact16⟩, fact17⟩, fact18⟩, fact19⟩, fact20⟩, fact21⟩, fact22⟩, fact23⟩, fact24⟩, fact25⟩, fact26⟩, fact27⟩, fact28⟩, fact29⟩, fact30⟩, fact31⟩

theorem wrap3 : Tryz.f3.isWrapper Tryz.pinned.checked.prog Rows.storeNilRow.wrapper Rows.storeNilRow.mainSum := by
  unfold Func.isWrapper
  first | (rw [if_pos (by decide +kernel)]; kernel_rfl) | (rw [if_neg (by decide +kernel)]; exact ⟨rfl, rfl⟩)

theorem inst3 : Tryz.f3.isInstance Tryz.pinned.checked.prog Rows.storeNilRow.origin Rows.storeNilRow.targs := of_decide_eq_true (by kernel_rfl)

set_option maxRecDepth 100000 in
theorem holds : Rows.StoreNilSaid :=
  OpenClaim.holds_of_wide_leaving (p := Tryz.pinned) (s := Rows.storeNilSpec) (c := Rows.storeNilRow) 3 Tryz.f3 rfl rfl rfl rfl rfl rfl rfl ⟨rfl, rfl, rfl, rfl, rfl⟩ rfl rfl rfl rfl rfl named3 Tryz.func3 closed inst3 wrap3
    (fun os started H enc _ => lifted os started H enc)

/-- 'Claim7.holds_tied_plain_at', of a row whose call can start goroutines. -/
theorem tied_plain_goes (Lk : Looks) {p : Pinned} {s : OpenSpec} {c : OpenClaim} (al : List (List PathCond)) (kinds : List LaidKind) (tests : Bool) (har : Bool × String) (lk goes : Bool)
    (hc : c.holds p s) (hal : ∀ D ∈ al, (c.withDomain D).holds p s) (hw : c.wfByText s = true) (hwal : ∀ D ∈ al, (c.withDomain D).wfByText s = true)
    (htie : c.laidByTextAt Lk p kinds tests)
    (hst : c.start = .entering) (hnb : c.noBlocks = false ∧ c.again = false) (hm : p.checked.prog.mainIs = some (har.1, har.2.toList)) (hn : (!har.1 && har.2.isEmpty && !lk) = false)
    (hl : ∀ f fn, p.checked.prog.funcNamed c.func = some f → p.checked.prog.funcs[f]? = some fn → lk = p.checked.prog.looks [] ∧ ∀ (j : Nat) t, fn.params[j]? = some t → p.checked.prog.wantsStandIn t = false)
    (hg : goes = c.goesBy p.checked.prog) :
    Claim7.holds p (.plain s) { stood := { row := c, standIns := [], harness := har, looks := lk }, kinds := [], alts := al, goes := goes, laidByText := true, laidKinds := kinds, laidTests := tests, laidLooks := Lk } := by
  have h6 : ∀ r : OpenClaim, Claim7.isSixth { stood := { row := r, standIns := [], harness := har, looks := lk }, kinds := [] } = false := fun r => by simpa [Claim7.isSixth] using hn
  refine ⟨Claim7.tied_new_at Lk kinds tests (Claim7.new_of_sixth hc har lk hst hnb hm (h6 c) hl) hw, fun D hD => ?_, htie, (fun h => by cases h), hg⟩
  exact Claim7.tied_new_at Lk kinds tests (Claim7.new_of_sixth (hal D hD) har lk hst hnb hm (h6 _) hl) (hwal D hD)

theorem goesBy_fact : true = Rows.storeNilRow.goesBy Tryz.pinned.checked.prog := by
  have h : Tryz.pinned.checked.prog.goesFrom Rows.storeNilRow.func = true := by
    unfold Program.goesFrom
    rw [show Rows.storeNilRow.func = "bourse/bourselaw17.StoreNil" from rfl, named3, Option.any_some, goesFact]
  unfold OpenClaim.goesBy Program.goesAt
  rw [h, Bool.true_or]

set_option maxRecDepth 100000 in
theorem storeNil_card_holds : Rows.StoreNilCardSaid :=
  tied_plain_goes .later [] [.data, .data, .data, .data, .sentinel, .sentinel, .pinned] true (true, "34d35d5af5d44616107ba19256da98bbcaa0c29102350115e6932e0fa6f6281c") true true holds (fun _ h => by cases h) textFact (fun _ h => by cases h) storeNil_row_tie rfl ⟨rfl, rfl⟩ mainFact rfl
    (fun f fn hf hfn => by
      obtain rfl : f = 3 := Option.some.inj (named3.symm.trans hf) |>.symm
      obtain rfl : fn = Tryz.f3 := (Option.some.inj (Tryz.func3.symm.trans hfn)).symm
      exact ⟨looksFact, fun j t ht => by
        rw [Tryz.params3] at ht
        simp at ht⟩)
    goesBy_fact

end Go.Proofs.YtkdhkmcamojkiaaGreatDoor
