/- Abstract heaps: what a world must hold; a step from one to the next. -/
import Derived.Test.YtkdhkmcamojkiaaGreatDoorConc
namespace Go.Ev

def LState.conc : LState → LoopState
  | .ready => .ready
  | .busy => .busy
  | .done => .done
  | .exhausted => .exhausted
def Jump.conc : Jump → Option Code
  | .none => Option.none
  | .ret => some .ret
  | .exit id => some (.exit id)
  | .goto l => some (.goto l)

def AObj.ok (ρ : Env) (p : Nat → Prop) : AObj → Prop
  | .cells cs _ _ _ _ => ∀ v ∈ cs, v.ok ρ p
  | .map es _ => ∀ e ∈ es, e.1.ok ρ p ∧ e.2.1.ok ρ p
  | .siter _ _ => True
  | .loop _ _ tm _ _ _ _ d => (∀ t, (rdTmp tm t).ok ρ p) ∧ p d

theorem AObj.ok_mono {p p' : Nat → Prop} {ρ ρ' : Env} (ha : Env.agree p ρ ρ') (hp : ∀ id, p id → p' id) : ∀ o : AObj, o.ok ρ p → o.ok ρ' p'
  | .cells _ _ _ _ _, h => fun v hv => AV.ok_mono ha hp v (h v hv)
  | .map _ _, h => fun e he => ⟨AV.ok_mono ha hp _ (h e he).1, AV.ok_mono ha hp _ (h e he).2⟩
  | .siter _ _, _ => trivial
  | .loop _ _ _ _ _ _ _ _, h => ⟨fun t => AV.ok_mono ha hp _ (h.1 t), hp _ h.2⟩

structure CellsRel (ρ : Env) (id : Nat) (cs : List AV) (ex wr : Bool) (u : Nat) (cs' : Array Value) (fr : Nat × Nat) : Prop where
  cell : ∀ (i : Nat) v, cs[i]? = some v → cs'[ρ.base id + i]? = some (v.conc ρ)
  exact : ex = true → ρ.base id = 0 ∧ cs'.size = cs.length
  opened : ex = false → cs'.size = ρ.base id + ρ.cap id * u
  free : wr = true → ∀ off : Nat, off < cs'.size → ¬ (fr.1 ≤ off ∧ off < fr.2)

def entryOf (ρ : Env) (e : AV × AV × Nat) : MapEntry := { key := e.1.conc ρ, val := e.2.1.conc ρ, born := e.2.2 }

def ObjRel (ρ : Env) (id : Nat) : AObj → Obj → Prop
  | .cells cs e ex wr u, o => ∃ cs' fr, o = .cells cs' e fr ∧ CellsRel ρ id cs ex wr u cs' fr
  | .map es clock, o => o = .map (es.map (entryOf ρ)).toArray clock
  | .siter s pos, o => ρ.base id = 0 ∧ o = .stringIter (bytesOf s) pos
  | .loop st pend tm sz ps assign body d, o => ∃ fn tmps, o = .loop { state := st.conc, pending := pend.conc, fn, tmps, params := ps, assign, body, defers := ρ.blk d } ∧
      tmps.size = sz ∧ ∀ t : Nat, tmps.getD t undef = (rdTmp tm t).conc ρ

theorem ObjRel.congr {p : Nat → Prop} {ρ ρ' : Env} (h : Env.agree p ρ ρ') {id : Nat} (hid : p id) {ob : AObj} {o : Obj} (hok : ob.ok ρ p) (hr : ObjRel ρ id ob o) : ObjRel ρ' id ob o := by
  cases ob with
  | cells cs e ex wr u =>
    obtain ⟨cs', fr, rfl, hc⟩ := hr
    refine ⟨cs', fr, rfl, ⟨fun i v hv => ?_, fun hx => ?_, fun hx => ?_, hc.free⟩⟩
    · rw [(h.2 id hid).2.1, AV.conc_congr h v (hok v (List.mem_of_getElem? hv))]; exact hc.cell i v hv
    · rw [(h.2 id hid).2.1]; exact hc.exact hx
    · rw [(h.2 id hid).2.1, (h.2 id hid).2.2]; exact hc.opened hx
  | map es clock =>
    have : es.map (entryOf ρ') = es.map (entryOf ρ) := List.map_congr_left fun e he => by
      simp [entryOf, AV.conc_congr h _ (hok e he).1, AV.conc_congr h _ (hok e he).2]
    simpa [ObjRel, this] using hr
  | siter s pos => exact ⟨by rw [(h.2 id hid).2.1]; exact hr.1, hr.2⟩
  | loop st pend tm sz ps assign body d =>
    obtain ⟨fn, tmps, rfl, hsz, ht⟩ := hr
    exact ⟨fn, tmps, by rw [(h.2 d hok.2).1], hsz, fun t => by rw [AV.conc_congr h _ (hok.1 t)]; exact ht t⟩

/-- The program, what the evaluator knows of it, the world at the beginning, the atoms' values. -/
structure Ctx where
  P : Program
  T : Tabs
  w0 : World
  atom : Nat → Value

structure Inv (C : Ctx) (ρ : Env) (p : Nat → Prop) (hp : Heap) (w : World) : Prop where
  sat : ∀ id o, hp.get id = some o → p id ∧ o.ok ρ p ∧ ∃ o', w.heap[ρ.blk id]? = some o' ∧ ObjRel ρ id o o'
  inj : ∀ id id' o o', hp.get id = some o → hp.get id' = some o' → ρ.blk id = ρ.blk id' → id = id'
  own : ∀ id o, hp.get id = some o → C.w0.heap.size ≤ ρ.blk id
  old : ∀ b, b < C.w0.heap.size → w.heap[b]? = C.w0.heap[b]?
  size : C.w0.heap.size ≤ w.heap.size
  atom : ρ.atom = C.atom

def World.same (w w' : World) : Prop := w'.tape = w.tape ∧ w'.os = w.os ∧ w'.output = w.output
theorem World.same.refl (w : World) : World.same w w := ⟨rfl, rfl, rfl⟩
theorem World.same.trans {w w' w'' : World} (h : World.same w w') (h' : World.same w' w'') : World.same w w'' :=
  ⟨h'.1.trans h.1, h'.2.1.trans h.2.1, h'.2.2.trans h.2.2⟩

structure Step (C : Ctx) (ρ : Env) (p : Nat → Prop) (hp : Heap) (w : World) (ρ' : Env) (p' : Nat → Prop) (hp' : Heap) (w' : World) : Prop where
  inv : Inv C ρ' p' hp' w'
  agree : Env.agree p ρ ρ'
  mono : ∀ id, p id → p' id
  grow : w.heap.size ≤ w'.heap.size
  frame : ∀ b : Nat, b < w.heap.size → (∀ id o, hp.get id = some o → ρ.blk id ≠ b) → w'.heap[b]? = w.heap[b]?
  orig : ∀ id o, hp'.get id = some o → w.heap.size ≤ ρ'.blk id ∨ ∃ id₀ o₀, hp.get id₀ = some o₀ ∧ ρ.blk id₀ = ρ'.blk id
  same : World.same w w'

section
variable {C : Ctx} {ρ ρ' ρ'' : Env} {p p' p'' : Nat → Prop} {hp hp' hp'' : Heap} {w w' w'' : World}

theorem Inv.lt (h : Inv C ρ p hp w) {id : Nat} {o : AObj} (ho : hp.get id = some o) : ρ.blk id < w.heap.size := by
  obtain ⟨_, _, o', ho', _⟩ := h.sat id o ho
  exact (Array.getElem?_eq_some_iff.1 ho').1

theorem Inv.of_heap (h : Inv C ρ p hp w) (he : w'.heap = w.heap) : Inv C ρ p hp w' := by
  refine ⟨?_, h.inj, h.own, ?_, ?_, h.atom⟩
  · rw [he]; exact h.sat
  · rw [he]; exact h.old
  · rw [he]; exact h.size

theorem Inv.weaken (h : Inv C ρ p hp w) (hm : ∀ id, p id → p' id) : Inv C ρ p' hp w :=
  ⟨fun id o ho => let ⟨a, b, c⟩ := h.sat id o ho; ⟨hm id a, AObj.ok_mono (.refl _ _) hm o b, c⟩, h.inj, h.own, h.old, h.size, h.atom⟩

theorem Step.refl (h : Inv C ρ p hp w) (he : w'.heap = w.heap) (hs : World.same w w') (hm : ∀ id, p id → p' id) : Step C ρ p hp w ρ p' hp w' :=
  ⟨(h.of_heap he).weaken hm, .refl _ _, hm, by rw [he]; exact Nat.le_refl _, fun b _ _ => by rw [he], fun id o ho => .inr ⟨id, o, ho, rfl⟩, hs⟩

theorem Step.trans (h : Step C ρ p hp w ρ' p' hp' w') (h' : Step C ρ' p' hp' w' ρ'' p'' hp'' w'') : Step C ρ p hp w ρ'' p'' hp'' w'' := by
  refine ⟨h'.inv, h.agree.trans h'.agree h.mono, fun id hid => h'.mono id (h.mono id hid), Nat.le_trans h.grow h'.grow, fun b hb hn => ?_, fun id o ho => ?_, h.same.trans h'.same⟩
  · rw [h'.frame b (Nat.lt_of_lt_of_le hb h.grow) ?_, h.frame b hb hn]
    intro id o ho e
    rcases h.orig id o ho with hge | ⟨id₀, o₀, h0, h1⟩
    · omega
    · exact hn id₀ o₀ h0 (h1.trans e)
  · rcases h'.orig id o ho with hge | ⟨id₀, o₀, h0, h1⟩
    · exact .inl (Nat.le_trans h.grow hge)
    · rcases h.orig id₀ o₀ h0 with hge | ⟨id₁, o₁, h2, h3⟩
      · exact .inl (by rw [← h1]; exact hge)
      · exact .inr ⟨id₁, o₁, h2, h3.trans h1⟩

theorem Step.widen (h : Step C ρ p hp w ρ' p' hp' w') (hm : ∀ id, p' id → p'' id) : Step C ρ p hp w ρ' p'' hp' w' :=
  ⟨h.inv.weaken hm, h.agree, fun id hid => hm id (h.mono id hid), h.grow, h.frame, h.orig, h.same⟩

/-- An object is turned where it lies. -/
theorem Step.update (h : Inv C ρ p hp w) {id : Nat} {o₀ o : AObj} {o' : Obj} (h0 : hp.get id = some o₀) (hsz : w'.heap.size = w.heap.size)
    (hne : ∀ b : Nat, b ≠ ρ.blk id → w'.heap[b]? = w.heap[b]?) (he : w'.heap[ρ.blk id]? = some o') (hr : ObjRel ρ id o o') (hok : o.ok ρ p) (hs : World.same w w') :
    Step C ρ p hp w ρ p (hp.set id (some o)) w' := by
  have hown := h.own id o₀ h0
  refine ⟨⟨fun i x hx => ?_, fun i i' x x' hx hx' hb => ?_, fun i x hx => ?_, fun b hb => ?_, by rw [hsz]; exact h.size, h.atom⟩, .refl _ _, fun _ x => x, by omega, fun b hb hn => hne b fun e => hn id o₀ h0 e.symm, fun i x hx => ?_, hs⟩
  · by_cases e : i = id
    · subst e
      rw [PT.get_set_same] at hx
      simp only [Option.some.injEq] at hx
      subst hx
      exact ⟨(h.sat _ _ h0).1, hok, o', he, hr⟩
    · rw [PT.get_set_ne _ _ e] at hx
      obtain ⟨a, b, y, hy, hyr⟩ := h.sat i x hx
      exact ⟨a, b, y, by rw [hne _ (fun eb => e (h.inj _ _ _ _ hx h0 eb))]; exact hy, hyr⟩
  · have get : ∀ {j y}, (hp.set id (some o)).get j = some y → ∃ z, hp.get j = some z := fun {j y} hj => by
      by_cases e : j = id
      · subst e; exact ⟨o₀, h0⟩
      · rw [PT.get_set_ne _ _ e] at hj; exact ⟨y, hj⟩
    obtain ⟨z, hz⟩ := get hx
    obtain ⟨z', hz'⟩ := get hx'
    exact h.inj _ _ _ _ hz hz' hb
  · by_cases e : i = id
    · subst e; exact hown
    · rw [PT.get_set_ne _ _ e] at hx; exact h.own _ _ hx
  · rw [hne b (by omega)]; exact h.old b hb
  · by_cases e : i = id
    · subst e; exact .inr ⟨_, o₀, h0, rfl⟩
    · rw [PT.get_set_ne _ _ e] at hx; exact .inr ⟨i, x, hx, rfl⟩

/-- One number more. -/
def Env.with (ρ : Env) (n b o c : Nat) : Env :=
  { ρ with blk := fun i => if i = n then b else ρ.blk i, base := fun i => if i = n then o else ρ.base i, cap := fun i => if i = n then c else ρ.cap i }
theorem Env.with_blk (ρ : Env) (n b o c : Nat) : (ρ.with n b o c).blk n = b := by simp [Env.with]
theorem Env.with_base (ρ : Env) (n b o c : Nat) : (ρ.with n b o c).base n = o := by simp [Env.with]
theorem Env.with_cap (ρ : Env) (n b o c : Nat) : (ρ.with n b o c).cap n = c := by simp [Env.with]
attribute [simp] Env.with_blk Env.with_base Env.with_cap
theorem Env.with_ne (ρ : Env) {n i : Nat} (b o c : Nat) (h : i ≠ n) : ρ.same (ρ.with n b o c) i := by simp [Env.with, Env.same, h]
theorem Env.with_agree {n : Nat} (hn : ¬ p n) (b o c : Nat) : Env.agree p ρ (ρ.with n b o c) := ⟨rfl, fun _ hid => Env.with_ne ρ b o c (fun e => hn (e ▸ hid))⟩

def more (p : Nat → Prop) (n n' : Nat) : Nat → Prop := fun id => p id ∨ (n ≤ id ∧ id < n')
theorem more_left {n n' i : Nat} (h : p i) : more p n n' i := .inl h
theorem more_one {n : Nat} : more p n (n + 1) n := .inr ⟨Nat.le_refl _, Nat.lt_succ_self _⟩
theorem more_same {n i : Nat} (h : more p n n i) : p i := h.elim (fun x => x) fun ⟨a, b⟩ => absurd b (by omega)

/-- A number is named, and no block. -/
theorem Step.name (h : Inv C ρ p hp w) {n : Nat} (hn : ¬ p n) (b o c : Nat) (he : w'.heap = w.heap) (hs : World.same w w') : Step C ρ p hp w (ρ.with n b o c) (more p n (n + 1)) hp w' := by
  have ha := Env.with_agree (p := p) (ρ := ρ) hn b o c
  refine ⟨⟨fun i x hx => ?_, fun i i' x x' hx hx' hb => ?_, fun i x hx => ?_, fun b hb => by rw [he]; exact h.old b hb, by rw [he]; exact h.size, h.atom⟩, ha, fun _ => more_left, by rw [he]; exact Nat.le_refl _, fun b _ _ => by rw [he], fun i x hx => ?_, hs⟩
  · obtain ⟨a, b', y, hy, hyr⟩ := h.sat i x hx
    exact ⟨more_left a, AObj.ok_mono ha (fun _ => more_left) _ b', y, by rw [he, (ha.2 i a).1]; exact hy, hyr.congr ha a b'⟩
  · have hi := (h.sat i x hx).1
    have hi' := (h.sat i' x' hx').1
    rw [(ha.2 i hi).1, (ha.2 i' hi').1] at hb
    exact h.inj _ _ _ _ hx hx' hb
  · rw [(ha.2 i (h.sat i x hx).1).1]; exact h.own _ _ hx
  · exact .inr ⟨i, x, hx, by rw [(ha.2 i (h.sat i x hx).1).1]⟩

/-- A new block. -/
theorem Step.alloc (h : Inv C ρ p hp w) {n : Nat} (hn : ¬ p n) {ob : AObj} {o : Obj} {c : Nat} (hsz : w'.heap.size = w.heap.size + 1) (hne : ∀ b : Nat, b < w.heap.size → w'.heap[b]? = w.heap[b]?)
    (he : w'.heap[w.heap.size]? = some o) (hr : ObjRel (ρ.with n w.heap.size 0 c) n ob o) (hok : ob.ok (ρ.with n w.heap.size 0 c) (more p n (n + 1))) (hs : World.same w w') :
    Step C ρ p hp w (ρ.with n w.heap.size 0 c) (more p n (n + 1)) (hp.set n (some ob)) w' := by
  have ha := Env.with_agree (p := p) (ρ := ρ) hn w.heap.size 0 c
  have hfresh : ∀ {x}, hp.get n = some x → False := fun hx => hn (h.sat _ _ hx).1
  refine ⟨⟨fun i x hx => ?_, fun i i' x x' hx hx' hb => ?_, fun i x hx => ?_, fun b hb => ?_, by have := h.size; omega, h.atom⟩, ha, fun _ => more_left, by omega, fun b hb _ => hne b hb, fun i x hx => ?_, hs⟩
  · by_cases e : i = n
    · subst e
      rw [PT.get_set_same] at hx
      simp only [Option.some.injEq] at hx
      subst hx
      exact ⟨more_one, hok, o, by rw [Env.with_blk]; exact he, hr⟩
    · rw [PT.get_set_ne _ _ e] at hx
      obtain ⟨a, b', y, hy, hyr⟩ := h.sat i x hx
      exact ⟨more_left a, AObj.ok_mono ha (fun _ => more_left) _ b', y, by rw [(ha.2 i a).1, hne _ (h.lt hx)]; exact hy, hyr.congr ha a b'⟩
  · by_cases e : i = n
    · subst e
      by_cases e' : i' = i
      · exact e'.symm
      · rw [PT.get_set_ne _ _ e'] at hx'
        rw [Env.with_blk, (ha.2 i' (h.sat _ _ hx').1).1] at hb
        have := h.lt hx'
        omega
    · rw [PT.get_set_ne _ _ e] at hx
      by_cases e' : i' = n
      · subst e'
        rw [Env.with_blk, (ha.2 i (h.sat _ _ hx).1).1] at hb
        have := h.lt hx
        omega
      · rw [PT.get_set_ne _ _ e'] at hx'
        rw [(ha.2 i (h.sat _ _ hx).1).1, (ha.2 i' (h.sat _ _ hx').1).1] at hb
        exact h.inj _ _ _ _ hx hx' hb
  · by_cases e : i = n
    · subst e; rw [Env.with_blk]; exact h.size
    · rw [PT.get_set_ne _ _ e] at hx; rw [(ha.2 i (h.sat _ _ hx).1).1]; exact h.own _ _ hx
  · rw [hne b (by have := h.size; omega)]; exact h.old b hb
  · by_cases e : i = n
    · subst e; exact .inl (by rw [Env.with_blk]; exact Nat.le_refl _)
    · rw [PT.get_set_ne _ _ e] at hx; exact .inr ⟨i, x, hx, by rw [(ha.2 i (h.sat _ _ hx).1).1]⟩

theorem Step.alloc' (h : Inv C ρ p hp w) {n : Nat} (hn : ¬ p n) {ob : AObj} {o : Obj} {c : Nat} {w₁ : World} (hh : w₁.heap = w.heap) (hs : World.same w w₁)
    (hr : ObjRel (ρ.with n w.heap.size 0 c) n ob o) (hok : ob.ok (ρ.with n w.heap.size 0 c) (more p n (n + 1))) :
    Step C ρ p hp w (ρ.with n w.heap.size 0 c) (more p n (n + 1)) (hp.set n (some ob)) { w₁ with heap := w₁.heap.push o } := by
  refine Step.alloc h hn (o := o) ?_ (fun b hb => ?_) ?_ hr hok hs
  · show (w₁.heap.push o).size = _; rw [hh, Array.size_push]
  · show (w₁.heap.push o)[b]? = _; rw [hh, Array.getElem?_push_lt hb, Array.getElem?_eq_getElem hb]
  · show (w₁.heap.push o)[w.heap.size]? = _; rw [hh]; simp

/-- A block is known under a new number, from another place on; no more under the elder one. -/
theorem Step.rename (h : Inv C ρ p hp w) {n id : Nat} (hn : ¬ p n) {o₀ ob : AObj} {o : Obj} {off c : Nat} (h0 : hp.get id = some o₀) (hsz : w'.heap.size = w.heap.size)
    (hne : ∀ b : Nat, b ≠ ρ.blk id → w'.heap[b]? = w.heap[b]?) (he : w'.heap[ρ.blk id]? = some o) (hr : ObjRel (ρ.with n (ρ.blk id) off c) n ob o) (hok : ob.ok (ρ.with n (ρ.blk id) off c) (more p n (n + 1))) (hs : World.same w w') :
    Step C ρ p hp w (ρ.with n (ρ.blk id) off c) (more p n (n + 1)) ((hp.set id none).set n (some ob)) w' := by
  have ha := Env.with_agree (p := p) (ρ := ρ) hn (ρ.blk id) off c
  have hown := h.own id o₀ h0
  have get : ∀ {j y}, j ≠ n → ((hp.set id none).set n (some ob)).get j = some y → j ≠ id ∧ hp.get j = some y := fun {j y} hj hy => by
    rw [PT.get_set_ne _ _ hj] at hy
    by_cases e : j = id
    · subst e; rw [PT.get_set_same] at hy; cases hy
    · rw [PT.get_set_ne _ _ e] at hy; exact ⟨e, hy⟩
  refine ⟨⟨fun i x hx => ?_, fun i i' x x' hx hx' hb => ?_, fun i x hx => ?_, fun b hb => ?_, by rw [hsz]; exact h.size, h.atom⟩, ha, fun _ => more_left, by omega, fun b hb hno => hne b fun e => hno id o₀ h0 e.symm, fun i x hx => ?_, hs⟩
  · by_cases e : i = n
    · subst e
      rw [PT.get_set_same] at hx
      simp only [Option.some.injEq] at hx
      subst hx
      exact ⟨more_one, hok, o, by rw [Env.with_blk]; exact he, hr⟩
    · obtain ⟨e1, hx⟩ := get e hx
      obtain ⟨a, b', y, hy, hyr⟩ := h.sat i x hx
      exact ⟨more_left a, AObj.ok_mono ha (fun _ => more_left) _ b', y, by rw [(ha.2 i a).1, hne _ (fun eb => e1 (h.inj _ _ _ _ hx h0 eb))]; exact hy, hyr.congr ha a b'⟩
  · by_cases e : i = n
    · subst e
      by_cases e' : i' = i
      · exact e'.symm
      · obtain ⟨e1, hx'⟩ := get e' hx'
        rw [Env.with_blk, (ha.2 i' (h.sat _ _ hx').1).1] at hb
        exact absurd (h.inj _ _ _ _ hx' h0 hb.symm) e1
    · obtain ⟨e1, hx1⟩ := get e hx
      by_cases e' : i' = n
      · subst e'
        rw [Env.with_blk, (ha.2 i (h.sat _ _ hx1).1).1] at hb
        exact absurd (h.inj _ _ _ _ hx1 h0 hb) e1
      · obtain ⟨_, hx2⟩ := get e' hx'
        rw [(ha.2 i (h.sat _ _ hx1).1).1, (ha.2 i' (h.sat _ _ hx2).1).1] at hb
        exact h.inj _ _ _ _ hx1 hx2 hb
  · by_cases e : i = n
    · subst e; rw [Env.with_blk]; exact hown
    · obtain ⟨_, hx⟩ := get e hx; rw [(ha.2 i (h.sat _ _ hx).1).1]; exact h.own _ _ hx
  · rw [hne b (by omega)]; exact h.old b hb
  · by_cases e : i = n
    · subst e; exact .inr ⟨id, o₀, h0, by rw [Env.with_blk]⟩
    · obtain ⟨_, hx⟩ := get e hx; exact .inr ⟨i, x, hx, by rw [(ha.2 i (h.sat _ _ hx).1).1]⟩

end
end Go.Ev
