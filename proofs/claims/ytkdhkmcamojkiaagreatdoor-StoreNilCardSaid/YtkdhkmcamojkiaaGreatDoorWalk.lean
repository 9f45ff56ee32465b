/- THE WALK, piece by piece: operations, code, calls. -/
import Derived.Test.YtkdhkmcamojkiaaGreatDoorControl
namespace Go.Ev

section walk
variable {C : Ctx} {rec : Task → Option Res}

/-! ### Composition -/
theorem PieceOk.andThen {ro : Option Nat} {sz nx n1 n2 : Nat} {tm tm1 tm2 : PT AV} {hp hp1 hp2 : Heap} {G G1 G2 K1 K2 : Fence → Nat → (Exit → Act → World → Prop) → Act → World → Prop}
    (W : Fence → Nat → (Exit → Act → World → Prop) → Exit → Act → World → Prop)
    (h1 : PieceOk C ro sz tm hp nx tm1 hp1 n1 G1 K1) (h2 : PieceOk C ro sz tm1 hp1 n1 tm2 hp2 n2 G2 K2)
    (hG : ∀ F n Q a w, G1 F n (W F n Q) a w → G F n Q a w) (hK : ∀ F n Q a w, G2 F n Q a w → K1 F n (W F n Q) a w) : PieceOk C ro sz tm hp nx tm2 hp2 n2 G K2 := by
  refine ⟨Nat.le_trans h1.1 h2.1, fun F n ρ p w a Q hF hi hfr htm hpost => hG _ _ _ _ _ (h1.2 F n ρ p w a (W F n Q) hF hi hfr htm fun ρ' a' w' hp1 => hK _ _ _ _ _ ?_)⟩
  exact h2.2 F n ρ' _ w' a' Q (hF.step hp1.step.agree hp1.step.mono) hp1.step.inv (hfr.more h1.1) hp1.tm fun ρ'' a'' w'' hp2 => hpost _ _ _ (hp1.trans h1.1 h2.1 hp2)

theorem PieceOk.map {ro : Option Nat} {sz nx n1 : Nat} {tm tm1 : PT AV} {hp hp1 : Heap} {G G1 K K1 : Fence → Nat → (Exit → Act → World → Prop) → Act → World → Prop}
    (W : Fence → Nat → (Exit → Act → World → Prop) → Exit → Act → World → Prop)
    (h1 : PieceOk C ro sz tm hp nx tm1 hp1 n1 G1 K1) (hG : ∀ F n Q a w, G1 F n (W F n Q) a w → G F n Q a w) (hK : ∀ F n Q a w, K F n Q a w → K1 F n (W F n Q) a w) : PieceOk C ro sz tm hp nx tm1 hp1 n1 G K :=
  ⟨h1.1, fun F n ρ p w a Q hF hi hfr htm hpost => hG _ _ _ _ _ (h1.2 F n ρ p w a (W F n Q) hF hi hfr htm fun _ _ _ hp1 => hK _ _ _ _ _ (hpost _ _ _ hp1))⟩

theorem PieceOk.here {ro : Option Nat} {sz nx : Nat} {tm : PT AV} {hp : Heap} {G K : Fence → Nat → (Exit → Act → World → Prop) → Act → World → Prop} (h : ∀ F n Q a w, K F n Q a w → G F n Q a w) : PieceOk C ro sz tm hp nx tm hp nx G K :=
  ⟨Nat.le_refl _, fun _ _ _ _ _ _ _ _ hi _ htm hpost => h _ _ _ _ _ (hpost _ _ _ (Post.refl hi htm))⟩

/-! ### Operations -/
theorem wantedA_sound (hC : C.Ok) {ρ : Env} {p : Nat → Prop} {hp : Heap} {w : World} {tm : PT AV} {sz : Nat} {a : Act} (hi : Inv C ρ p hp w) (htm : Tm ρ p tm sz a.tmps) (ops : Array Oper) (o : Oper) :
    Region.wanted o (yielded ops a.tmps) = wantedA ops tm o.guard := by
  unfold Region.wanted wantedA
  cases hg : o.guard with
  | none => rfl
  | some g =>
    obtain ⟨j, want⟩ := g
    simp only
    unfold yielded
    cases hd : (ops[j]?).bind (·.dst) with
    | none => rfl
    | some t =>
      simp only [Option.bind_some]
      have hv := htm.val t
      have hx : ∀ b : Bool, (rdTmp tm t).conc ρ = .bool b → rdTmp tm t = .bool b := fun b hb => by
        cases hr : rdTmp tm t <;> rw [hr] at hb <;> simp only [AV.conc, reduceCtorEq, Value.bool.injEq] at hb
        · rw [hb]
        · rw [hi.atom] at hb; exact absurd hb (hC.nobool _ _)
      cases ht : a.tmps[t]? with
      | none =>
        have hu : a.tmps.getD t undef = undef := by simp [Array.getD_eq_getD_getElem?, ht]
        rw [hu] at hv
        simp only
        split
        · rename_i b hb
          rw [hb] at hv
          cases hv
        · rfl
      | some u =>
        have hu : a.tmps.getD t undef = u := by simp [Array.getD_eq_getD_getElem?, ht]
        rw [hu] at hv
        cases u
        case bool b =>
          have := hx b hv.symm
          simp only [this, beqB_eq]
          rfl
        all_goals
          simp only
          split
          · rename_i b hb
            rw [hb] at hv
            cases hv
          · rfl

theorem aop_nodefer {T : Tabs} {o : Oper} {tm : PT AV} {hp : Heap} {nx : Nat} {r : OpR} (h : aop T o.op tm hp nx = some r) (c : Call) : o.op ≠ .defer c := fun e => by
  rw [e] at h; cases h

/-- ONE OPERATION, its call run. -/
theorem op_good (hC : C.Ok) (hrec : ∀ t r, rec t = some r → Good C t r) {o : Oper} {tm : PT AV} {hp hp' : Heap} {nx nx' sz : Nat} {r : OpR} {v : AV} (h : aop C.T o.op tm hp nx = some r) (hR : runR rec r hp nx = some (v, hp', nx')) :
    nx ≤ nx' ∧ ∀ (F : Fence) (ro : Option Nat) (n : Nat) (ρ : Env) (p : Nat → Prop) (w : World) (a : Act) (next : Act → World → Prop) (Q : Exit → Act → World → Prop), FOk F ρ p ro → Inv C ρ p hp w → Fresh p nx → Tm ρ p tm sz a.tmps →
      (∀ ρ' w', Step C ρ p hp w ρ' (more p nx nx') hp' w' → v.ok ρ' (more p nx nx') → next (a.put o.dst (v.conc ρ')) w') → o.wpIn F n C.P a w next Q := by
  have body : ∀ {f as}, r = .call f as → ∃ i, C.P.funcs[f]? = some i ∧ i.body.isSome = true := by
    intro f as e
    subst e
    simp only [runR] at hR
    split at hR
    · rename_i v0 hp0 n0 hr
      exact (hrec _ _ hr).2.1
    · cases hR
  have hle : nx ≤ nx' := by
    cases r with
    | val v0 => simp only [runR, Option.some.injEq, Prod.mk.injEq] at hR; omega
    | new v0 ob =>
      cases ob with
      | none => simp only [runR, natK_eq, Option.some.injEq, Prod.mk.injEq] at hR; omega
      | some ob => simp only [runR, setObj, PT.setK_eq, natK_eq, Option.some.injEq, Prod.mk.injEq] at hR; omega
    | heap v0 hp0 n0 =>
      simp only [runR] at hR
      cases hb : Nat.ble nx n0 with
      | false => rw [hb] at hR; cases hR
      | true =>
        rw [hb, cond_true] at hR
        rw [Nat.ble_eq] at hb
        simp only [Option.some.injEq, Prod.mk.injEq] at hR
        omega
    | call f as =>
      simp only [runR] at hR
      split at hR
      · rename_i v0 hp0 n0 hr
        simp only [Option.some.injEq, Prod.mk.injEq] at hR
        obtain ⟨rfl, rfl, rfl⟩ := hR
        exact (hrec _ _ hr).1
      · cases hR
    | round l as =>
      simp only [runR] at hR
      split at hR
      · rename_i v0 hp0 n0 hr
        simp only [Option.some.injEq, Prod.mk.injEq] at hR
        obtain ⟨rfl, rfl, rfl⟩ := hR
        exact (hrec _ _ hr).1
      · cases hR
  refine ⟨hle, fun F ro n ρ p w a next Q hF hi hfr htm hpost => ⟨fun f _ => hF.fn f, ?_⟩⟩
  rw [Oper.semAt_eq _ _ _ (aop_nodefer h)]
  have hg := aop_sound hC (hi.fine hC.fine) hi htm (hfr nx (Nat.le_refl _)) h (fun f as e => body e)
  generalize (execOp a.eval o).run C.P w = x at hg
  cases r with
  | val v0 =>
    simp only [runR, Option.some.injEq, Prod.mk.injEq] at hR
    obtain ⟨rfl, rfl, rfl⟩ := hR
    obtain ⟨rfl, hv⟩ := hg
    exact hpost ρ w (by rw [more_refl]; exact .refl hi rfl (.refl _) fun _ x => x) (by rw [more_refl]; exact hv)
  | new v0 ob =>
    cases ob with
    | none =>
      simp only [runR, natK_eq, Option.some.injEq, Prod.mk.injEq] at hR
      obtain ⟨rfl, rfl, rfl⟩ := hR
      obtain ⟨ρ', w', rfl, hv, hs⟩ := hg
      exact hpost ρ' w' hs hv
    | some ob =>
      simp only [runR, setObj, PT.setK_eq, natK_eq, Option.some.injEq, Prod.mk.injEq] at hR
      obtain ⟨rfl, rfl, rfl⟩ := hR
      obtain ⟨ρ', w', rfl, hv, hs⟩ := hg
      exact hpost ρ' w' hs hv
  | heap v0 hp0 n0 =>
    simp only [runR] at hR
    cases hb : Nat.ble nx n0 with
    | false => rw [hb] at hR; cases hR
    | true =>
    rw [hb, cond_true] at hR
    simp only [Option.some.injEq, Prod.mk.injEq] at hR
    obtain ⟨rfl, rfl, rfl⟩ := hR
    obtain ⟨_, ρ', w', hx, hv, hs⟩ := hg
    rcases hx with rfl | ⟨rfl, rfl⟩
    · exact hpost ρ' w' hs hv
    · exact hpost ρ' w' hs hv
  | call f as =>
    simp only [runR] at hR
    split at hR
    · rename_i v0 hp0 n0 hr
      simp only [Option.some.injEq, Prod.mk.injEq] at hR
      obtain ⟨rfl, rfl, rfl⟩ := hR
      obtain ⟨rfl, hok⟩ := hg
      have hcall := (hrec _ _ hr).2.2 (n - 1) ρ p w hi hfr hok
      refine ⟨hF.nodepth, CallsIn.mono (hF.calls hcall) fun e w' he => ?_⟩
      obtain ⟨ρ', rfl, hv, hs⟩ := he
      exact hpost ρ' w' hs hv
    · cases hR
  | round l as =>
    simp only [runR] at hR
    split at hR
    · rename_i v0 hp0 n0 hr
      simp only [Option.some.injEq, Prod.mk.injEq] at hR
      obtain ⟨rfl, rfl, rfl⟩ := hR
      obtain ⟨rfl, hl, hok⟩ := hg
      obtain ⟨f, tmps, assign, bd, hy, hround⟩ := (hrec _ _ hr).2 F ro (n - 1) ρ p w hF hi hfr hl hok
      rw [hy]
      refine ⟨hF.nodepth, RoundIn.mono hround fun e w' he => ?_⟩
      obtain ⟨ρ', rfl, hv, hs⟩ := he
      exact hpost ρ' w' hs hv
    · cases hR

theorem ops_good (hC : C.Ok) (hrec : ∀ t r, rec t = some r → Good C t r) {ops : Array Oper} {l : List Oper} {sz : Nat} {tm : PT AV} {hp : Heap} {nx : Nat} {r : Res} (h : doOps C.T rec ops l sz tm hp nx = some r) : Good C (.ops ops l sz tm hp nx) r := by
  unfold doOps at h
  split at h
  · simp only [Option.some.injEq] at h
    subst h
    refine ⟨rfl, fun ro => .here fun F n Q a w hq is his => ?_⟩
    cases is with
    | nil => exact hq
    | cons i is => simp at his
  · rename_i o rest
    have next : ∀ {tm' : PT AV} {hp' : Heap} {nx' : Nat} {v : AV} {r : Res}, nextOp rec ops o.dst rest sz tm v hp' nx' = some r → ∃ tm'' x tm3 hp3 n3, putTm tm sz o.dst v = some tm'' ∧ r = .out x tm3 hp3 n3 ∧ Good C (.ops ops rest sz tm'' hp' nx') (.out x tm3 hp3 n3) := by
      intro tm' hp' nx' v r hn
      unfold nextOp at hn
      split at hn
      · cases hn
      · rename_i tm'' hput
        have hg := hrec _ _ hn
        cases r with
        | val _ _ _ => exact hg.elim
        | out x tm3 hp3 n3 => exact ⟨tm'', x, tm3, hp3, n3, hput, rfl, hg⟩
    cases hw : wantedA ops tm o.guard with
    | false =>
      rw [hw, cond_false] at h
      obtain ⟨tm'', x, tm3, hp3, n3, hput, rfl, hx, hg⟩ := next (tm' := tm) h
      refine ⟨hx, fun ro => ⟨(hg ro).1, fun F n ρ p w a Q hF hi hfr htm hpost is his => ?_⟩⟩
      cases is with
      | nil => simp at his
      | cons i is =>
        simp only [List.map_cons, List.cons.injEq] at his
        obtain ⟨ho, his⟩ := his
        have hwant := wantedA_sound hC hi htm ops o
        rw [hw] at hwant
        simp only [wpOpsIn, ho, hwant, Bool.false_eq_true, if_false]
        refine ⟨fun f _ => hF.fn f, ?_⟩
        have htm' := htm.put (a := a) hput (v := .undef) trivial
        exact (hg ro).2 F n ρ p w (a.put o.dst undef) Q hF hi hfr htm' (fun ρ' a' w' hp' => hpost ρ' a' w' ⟨hp'.step, hp'.tm, by
          obtain ⟨ms, e1, m1⟩ := hp'.marks
          exact ⟨ms, by rw [e1]; cases o.dst <;> rfl, m1⟩⟩) is his
    | true =>
      rw [hw, cond_true] at h
      unfold doOp at h
      split at h
      · cases h
      rename_i r1 hop
      split at h
      · cases h
      rename_i v hp1 n1 hrun
      obtain ⟨hle, hopg⟩ := op_good (sz := sz) hC hrec hop hrun
      obtain ⟨tm'', x, tm3, hp3, n3, hput, rfl, hx, hg⟩ := next (tm' := tm) h
      refine ⟨hx, fun ro => ⟨Nat.le_trans hle (hg ro).1, fun F n ρ p w a Q hF hi hfr htm hpost is his => ?_⟩⟩
      cases is with
      | nil => simp at his
      | cons i is =>
        simp only [List.map_cons, List.cons.injEq] at his
        obtain ⟨ho, his⟩ := his
        have hwant := wantedA_sound hC hi htm ops o
        rw [hw] at hwant
        simp only [wpOpsIn, ho, hwant, if_true]
        refine hopg F ro n ρ p w a _ Q hF hi hfr htm fun ρ' w' hs hv => ?_
        have htm' := (htm.mono hs.agree hs.mono).put (a := a) hput hv
        have hp1' : Post C ρ p hp w a sz nx n1 tm'' hp1 ρ' (a.put o.dst (v.conc ρ')) w' := ⟨hs, htm', [], by cases o.dst <;> rfl, .nil _ _ _ _⟩
        exact (hg ro).2 F n ρ' _ w' (a.put o.dst (v.conc ρ')) Q (hF.step hs.agree hs.mono) hs.inv (hfr.more hle) htm' (fun ρ'' a'' w'' hp2 => hpost _ _ _ (hp1'.trans hle (hg ro).1 hp2)) is his

/-! ### Code -/
theorem out_of {ro : Option Nat} {c : Code} {sz : Nat} {tm : PT AV} {hp : Heap} {nx : Nat} {r : Res} (h : Good C (.code ro c sz tm hp nx) r) : ∃ x tm' hp' nx', r = .out x tm' hp' nx' := by
  cases r with
  | out x tm' hp' nx' => exact ⟨x, tm', hp', nx', rfl⟩
  | val _ _ _ => exact h.elim

theorem seq_good (hrec : ∀ t r, rec t = some r → Good C t r) {ro : Option Nat} {x y : Code} {sz : Nat} {tm : PT AV} {hp : Heap} {nx : Nat} {r : Res} (h : doSeq rec ro x y sz tm hp nx = some r) : Good C (.code ro (.seq x y) sz tm hp nx) r := by
  unfold doSeq at h
  split at h
  · rename_i tm1 hp1 n1 h1
    have g1 := hrec _ _ h1
    have g2 := hrec _ _ h
    obtain ⟨e, tm', hp', nx', rfl⟩ := out_of g2
    exact PieceOk.andThen (fun F n Q => Exit.then (y.wpIn F n C.P Q) Q) g1 g2 (fun _ _ _ _ _ h => wpIn_seq h) (fun _ _ _ _ _ h => h)
  · rename_i hne
    have g1 := hrec _ _ h
    obtain ⟨e, tm', hp', nx', rfl⟩ := out_of g1
    refine PieceOk.map (fun F n Q => Exit.then (y.wpIn F n C.P Q) Q) g1 (fun _ _ _ _ _ h => wpIn_seq h) fun _ _ _ _ _ h' => ?_
    cases e with
    | normal => exact absurd h (hne _ _ _)
    | exit id => exact h'
    | goto l => exact h'
    | ret => exact h'

theorem cond_good (hrec : ∀ t r, rec t = some r → Good C t r) {ro : Option Nat} {c : Operand} {x y : Code} {sz : Nat} {tm : PT AV} {hp : Heap} {nx : Nat} {r : Res} (h : doCond rec ro c x y sz tm hp nx = some r) : Good C (.code ro (.cond c x y) sz tm hp nx) r := by
  unfold doCond at h
  split at h
  · rename_i hc
    have g := hrec _ _ h
    obtain ⟨e, tm', hp', nx', rfl⟩ := out_of g
    exact ⟨g.1, fun F n ρ p w a Q hF hi hfr htm hpost => wpIn_cond_true (evalO_some htm hc).1 (g.2 F n ρ p w a Q hF hi hfr htm hpost)⟩
  · rename_i hc
    have g := hrec _ _ h
    obtain ⟨e, tm', hp', nx', rfl⟩ := out_of g
    exact ⟨g.1, fun F n ρ p w a Q hF hi hfr htm hpost => wpIn_cond_false (evalO_some htm hc).1 (g.2 F n ρ p w a Q hF hi hfr htm hpost)⟩
  · cases h

theorem block_good (hrec : ∀ t r, rec t = some r → Good C t r) {ro : Option Nat} {id : Nat} {b : Code} {sz : Nat} {tm : PT AV} {hp : Heap} {nx : Nat} {r : Res} (h : doBlock rec ro id b sz tm hp nx = some r) : Good C (.code ro (.block id b) sz tm hp nx) r := by
  unfold doBlock at h
  split at h
  · rename_i id' tm1 hp1 n1 h1
    have g := hrec _ _ h1
    cases hid : Nat.beq id' id with
    | true =>
      rw [hid, cond_true] at h
      simp only [Option.some.injEq] at h
      subst h
      have := Nat.eq_of_beq_eq_true hid
      subst this
      exact PieceOk.map (fun F n Q => Exit.inBlock id' Q) g (fun _ _ _ _ _ h => wpIn_block h) fun _ _ _ _ _ h' => by
        simp only [X.conc, Exit.inBlock, if_true]; exact h'
    | false =>
      rw [hid, cond_false] at h
      simp only [Option.some.injEq] at h
      subst h
      have := Nat.ne_of_beq_eq_false hid
      exact PieceOk.map (fun F n Q => Exit.inBlock id Q) g (fun _ _ _ _ _ h => wpIn_block h) fun _ _ _ _ _ h' => by
        simp only [X.conc, Exit.inBlock, if_neg this]; exact h'
  · rename_i hne
    have g := hrec _ _ h
    obtain ⟨e, tm', hp', nx', rfl⟩ := out_of g
    refine PieceOk.map (fun F n Q => Exit.inBlock id Q) g (fun _ _ _ _ _ h => wpIn_block h) fun _ _ _ _ _ h' => ?_
    cases e with
    | exit id' => exact absurd h (hne _ _ _ _)
    | normal => exact h'
    | goto l => exact h'
    | ret => exact h'

theorem loopTask_good (hrec : ∀ t r, rec t = some r → Good C t r) {ro : Option Nat} {b : Code} {k : Nat} {sz : Nat} {tm : PT AV} {hp : Heap} {nx : Nat} {r : Res} (h : doLoop rec ro b k sz tm hp nx = some r) : Good C (.loop ro b k sz tm hp nx) r := by
  unfold doLoop at h
  split at h
  · have g := hrec _ _ h
    obtain ⟨e, tm', hp', nx', rfl⟩ := out_of g
    refine PieceOk.map (fun F n Q => Exit.then (loopAt F n C.P b Q) Q) g (fun _ _ _ _ _ h => loopAt_round h) fun _ _ _ _ _ h' => ?_
    cases e <;> exact h'
  · rename_i k
    split at h
    · rename_i tm1 hp1 n1 h1
      have g1 := hrec _ _ h1
      have g2 := hrec _ _ h
      cases r with
      | val _ _ _ => exact g2.elim
      | out x tm' hp' nx' => exact PieceOk.andThen (fun _ _ Q => Q) g1 g2 (fun _ _ _ _ _ h => h) (fun _ _ _ _ _ h => h)
    · rename_i hne
      have g := hrec _ _ h
      cases r with
      | val _ _ _ => exact g.elim
      | out x tm' hp' nx' =>
        cases x with
        | normal => exact absurd h (hne _ _ _)
        | exit id => exact g
        | goto l => exact g
        | ret => exact g

theorem loop_good (hrec : ∀ t r, rec t = some r → Good C t r) {ro : Option Nat} {b : Code} {sz : Nat} {tm : PT AV} {hp : Heap} {nx : Nat} {r : Res} (h : wholeLoop rec ro b sz tm hp nx = some r) : Good C (.code ro (.loop b) sz tm hp nx) r := by
  unfold wholeLoop at h
  split at h
  · cases h
  · rename_i hne
    have g := hrec _ _ h
    cases r with
    | val _ _ _ => exact g.elim
    | out x tm' hp' nx' =>
      refine PieceOk.map (fun _ _ Q => Q) g (fun _ _ _ _ _ h => wpIn_loopAt h) fun _ _ _ _ _ h' => ?_
      cases x with
      | normal => exact absurd h (hne _ _ _)
      | exit id => exact h'
      | goto l => exact h'
      | ret => exact h'

theorem scopeTask_good (hrec : ∀ t r, rec t = some r → Good C t r) {ro : Option Nat} {b cur : Code} {k : Nat} {sz : Nat} {tm : PT AV} {hp : Heap} {nx : Nat} {r : Res} (h : doScope rec ro b cur k sz tm hp nx = some r) : Good C (.scope ro b cur k sz tm hp nx) r := by
  unfold doScope at h
  split at h
  · have g := hrec _ _ h
    obtain ⟨e, tm', hp', nx', rfl⟩ := out_of g
    refine PieceOk.map (fun F n Q => Exit.inScope b (fun rest => scopeAt F n C.P b rest Q) Q) g (fun _ _ _ _ _ h => scopeAt_piece h) fun _ _ _ _ _ h' => ?_
    cases e with
    | goto l =>
      simp only [X.conc, Exit.inScope]
      simp only at h'
      split
      · rename_i rest hf
        rw [hf] at h'
        exact h'
      · rename_i hf
        rw [hf] at h'
        exact h'
    | normal => exact h'
    | exit id => exact h'
    | ret => exact h'
  · rename_i k
    split at h
    · rename_i l tm1 hp1 n1 h1
      have g1 := hrec _ _ h1
      split at h
      · rename_i rest hf
        have g2 := hrec _ _ h
        cases r with
        | val _ _ _ => exact g2.elim
        | out x tm' hp' nx' =>
          refine PieceOk.andThen (fun _ _ Q => Q) g1 g2 (fun _ _ _ _ _ h => h) (fun _ _ _ _ _ h => ?_)
          simp only [hf]
          exact h
      · rename_i hf
        simp only [Option.some.injEq] at h
        subst h
        exact g1
    · have g := hrec _ _ h
      cases r with
      | val _ _ _ => exact g.elim
      | out x tm' hp' nx' => exact g

theorem scope_good (hrec : ∀ t r, rec t = some r → Good C t r) {ro : Option Nat} {b : Code} {sz : Nat} {tm : PT AV} {hp : Heap} {nx : Nat} {r : Res} (h : wholeScope rec ro b sz tm hp nx = some r) : Good C (.code ro (.scope b) sz tm hp nx) r := by
  unfold wholeScope at h
  split at h
  · rename_i l tm1 hp1 n1 h1
    have g := hrec _ _ h1
    split at h
    · cases h
    · rename_i hf
      simp only [Option.some.injEq] at h
      subst h
      refine PieceOk.map (fun _ _ Q => Q) g (fun _ _ _ _ _ h => wpIn_scopeAt h) fun _ _ _ _ _ h' => ?_
      simp only [hf]
      exact h'
  · rename_i hne
    have g := hrec _ _ h
    cases r with
    | val _ _ _ => exact g.elim
    | out x tm' hp' nx' =>
      refine PieceOk.map (fun _ _ Q => Q) g (fun _ _ _ _ _ h => wpIn_scopeAt h) fun _ _ _ _ _ h' => ?_
      cases x with
      | goto l => exact absurd h (hne _ _ _ _)
      | normal => exact h'
      | exit id => exact h'
      | ret => exact h'

end walk
end Go.Ev
