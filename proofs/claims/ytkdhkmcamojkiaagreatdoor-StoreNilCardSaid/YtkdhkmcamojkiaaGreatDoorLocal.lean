/- What an operation looks at: slots; of the heap, the blocks it is handed. -/
import Derived.Test.YtkdhkmcamojkiaaGreatDoorRange
namespace Go.Ev

section congr
variable {T : Tabs} {tm tm' : PT AV} {hp hp' : Heap} {nx nx' : Nat}

theorem evalL_congr : ∀ {l : List Operand}, (∀ x ∈ l, evalO tm x = evalO tm' x) → evalL tm l = evalL tm' l
  | [], _ => rfl
  | x :: xs, h => by
    simp only [evalL, h x (List.mem_cons_self ..), evalL_congr fun y hy => h y (List.mem_cons_of_mem _ hy)]

theorem boundA_congr {d : Nat} : ∀ {o : Option Operand}, (∀ x ∈ o.toArray, evalO tm x = evalO tm' x) → boundA tm d o = boundA tm' d o
  | none, _ => rfl
  | some x, h => by simp only [boundA, h x (by simp)]

theorem aBuiltin_congr {b : Builtin} {ts : List Nat} {args : List Operand} (h : ∀ x ∈ args, evalO tm x = evalO tm' x) : aBuiltin T tm hp nx b ts args = aBuiltin T tm' hp nx b ts args := by
  have hl := evalL_congr h
  unfold aBuiltin aAppend aCopy aDelete aUnsafeString
  simp only [hl]
  cases args with
  | nil => rfl
  | cons x xs => simp only [h x (List.mem_cons_self ..)]

theorem aop_congr {op : Op} (h : ∀ x ∈ op.operands, evalO tm x = evalO tm' x) : aop T op tm hp nx = aop T op tm' hp nx := by
  cases op <;> simp only [Op.operands] at h <;> simp only [aop]
  case move x => rw [h x (by simp)]
  case assign x => rw [h x (by simp)]
  case pick c x y => simp only [aPick, h c (by simp), h x (by simp), h y (by simp)]
  case nilCheck x => simp only [aNilCheck, h x (by simp)]
  case binOp op t x y yt => simp only [aBin, h x (by simp), h y (by simp)]
  case unOp op t x => simp only [aUn, h x (by simp)]
  case makeInterface t x => simp only [aMakeIface, h x (by simp)]
  case makeFunc fn first caps =>
    have h1 : evalL tm caps.toList = evalL tm' caps.toList := evalL_congr fun x hx => h x (by simp; exact .inr (by simpa using hx))
    simp only [aMakeFunc, h1]
  case fieldAddr s x f => simp only [aFieldAddr, h x (by simp)]
  case field s x f => simp only [aField, h x (by simp)]
  case indexAddr t x ix => simp only [aIndexAddr, h x (by simp), h ix (by simp)]
  case index t x ix => simp only [aIndex, h x (by simp), h ix (by simp)]
  case extract x ix => simp only [aExtract, h x (by simp)]
  case build t parts =>
    have h1 : evalL tm (parts.toList.map (·.2)) = evalL tm' (parts.toList.map (·.2)) := evalL_congr fun x hx => h x (by simpa using hx)
    simp only [aBuild, h1]
  case buildSlice t len parts =>
    have h1 : evalL tm (parts.toList.map (·.2)) = evalL tm' (parts.toList.map (·.2)) := evalL_congr fun x hx => h x (by simpa using hx)
    simp only [aBuildSlice, h1]
  case slice t x lo hi mx =>
    have h0 : evalO tm x = evalO tm' x := h x (by simp)
    have h1 : ∀ d, boundA tm d lo = boundA tm' d lo := fun d => boundA_congr fun y hy => h y (by simp at hy ⊢; simp [hy])
    have h2 : ∀ d, boundA tm d hi = boundA tm' d hi := fun d => boundA_congr fun y hy => h y (by simp at hy ⊢; simp [hy])
    simp only [aSlice, aSliceStr, h0, h1, h2]
  case load t x => simp only [aLoad, h x (by simp)]
  case lookup t m k ok => simp only [aLookup, h m (by simp), h k (by simp)]
  case convert s d x => simp only [aConvert, h x (by simp)]
  case box t x => simp only [aBox, h x (by simp)]
  case makeSlice t l c => simp only [aMakeSlice, h l (by simp), h c (by simp)]
  case range t x => simp only [aRange, h x (by simp)]
  case store t x y => simp only [aStore, h x (by simp), h y (by simp)]
  case mapUpdate t m k x => simp only [aMapUpdate, h m (by simp), h k (by simp), h x (by simp)]
  case insert t m k x => simp only [aMapUpdate, h m (by simp), h k (by simp), h x (by simp)]
  case next it s =>
    cases s with
    | true => simp only [aNext, h it (by simp)]
    | false => rfl
  case makeMap t r => cases r <;> rfl
  case call c =>
    unfold aCall
    cases hc : c.callee with
    | builtin b =>
      simp only
      exact aBuiltin_congr fun x hx => h x (by simp only [Call.operands, hc]; simp; simpa using hx)
    | value g =>
      have hg : evalO tm g = evalO tm' g := h g (by simp only [Call.operands, hc]; simp)
      have hl : evalL tm c.args.toList = evalL tm' c.args.toList := evalL_congr fun x hx => h x (by simp only [Call.operands, hc]; simp; exact .inr (by simpa using hx))
      simp only [hg, hl]
    | invoke r m => rfl

theorem kind_slice {t : Nat} {x : Operand} {lo hi mx : Option Operand} : kindOp T (.slice t x lo hi mx) = (match T.ty t with
    | none => .eff
    | some i => match i.desc with
      | .string => .pure
      | .slice _ => .make
      | _ => .eff) := rfl

/-- The same in every heap. -/
theorem aop_heap {op : Op} (hk : kindOp T op = .pure ∨ kindOp T op = .make) : aop T op tm hp nx = aop T op tm hp' nx := by
  cases op <;> first | rfl | skip
  case load => rcases hk with h | h <;> cases h
  case lookup => rcases hk with h | h <;> cases h
  case store => rcases hk with h | h <;> cases h
  case mapUpdate => rcases hk with h | h <;> cases h
  case insert => rcases hk with h | h <;> cases h
  case next => rcases hk with h | h <;> cases h
  case makeMap t r => cases r <;> rfl
  case convert s d x =>
    simp only [kindOp] at hk
    simp only [aop, aConvert]
    cases hs : T.ty s with
    | none => rfl
    | some si =>
      rw [hs] at hk
      cases hd : T.ty d with
      | none => rfl
      | some di =>
        rw [hd] at hk
        simp only at hk ⊢
        cases h1 : si.desc <;> rw [h1] at hk <;> cases h2 : di.desc <;> rw [h2] at hk <;> first | rfl | (rcases hk with h | h <;> cases h)
  case call c =>
    simp only [kindOp] at hk
    simp only [aop, aCall]
    cases hc : c.callee with
    | value g => rfl
    | invoke r m => rfl
    | builtin b =>
      rw [hc] at hk
      simp only
      unfold aBuiltin
      cases c.argTypes.toList with
      | nil => rfl
      | cons t ts => cases b <;> first | rfl | (rcases hk with h | h <;> cases h)

/-- What makes nothing: a value, the same under every next number. -/
theorem aop_value {op : Op} (hk : kindOp T op = .pure ∨ kindOp T op = .read) {r : OpR} (h : aop T op tm hp nx = some r) : (∃ v, r = .val v) ∧ aop T op tm hp nx' = some r := by
  cases op <;> first
    | (exact ⟨(ofVal_some h).imp fun _ x => x.2, h⟩)
    | (rcases hk with h' | h' <;> cases h'; done)
    | skip
  case slice t x lo hi mx =>
    rw [kind_slice] at hk
    simp only [aop, aSlice] at h ⊢
    cases mx with
    | some _ => cases h
    | none =>
      cases hi : T.ty t with
      | none => rw [hi] at h; cases h
      | some i =>
        rw [hi] at hk h
        simp only at hk h ⊢
        cases hd : i.desc <;> rw [hd] at hk h <;> simp only at hk h ⊢ <;> first
          | (rcases hk with h' | h' <;> cases h'; done)
          | (cases hx : evalO tm x with
             | none => rw [hx] at h; cases h
             | some xv => rw [hx] at h; cases xv <;> first | (cases h; done) | exact ⟨(ofVal_some h).imp fun _ x => x.2, h⟩)
  case convert s d x =>
    simp only [kindOp] at hk
    simp only [aop, aConvert] at h ⊢
    cases hs : T.ty s with
    | none => rw [hs] at h; cases h
    | some si =>
      rw [hs] at hk h
      cases hd : T.ty d with
      | none => rw [hd] at h; cases h
      | some di =>
        rw [hd] at hk h
        simp only at hk h ⊢
        cases h1 : si.desc <;> rw [h1] at hk h <;> cases h2 : di.desc <;> rw [h2] at hk h <;> first
          | (rcases hk with h' | h' <;> cases h'; done)
          | skip
        all_goals simp only at h ⊢
        · split at h
          · rw [intK_eq] at h ⊢
            simp only [Option.some.injEq] at h
            exact ⟨⟨_, h.symm⟩, by rw [h]⟩
          · cases h
        · split at h
          · simp only [Option.some.injEq] at h
            exact ⟨⟨_, h.symm⟩, by rw [h]⟩
          · cases h
        · exact ⟨(ofVal_some h).imp fun _ x => x.2, h⟩
  case call c =>
    simp only [kindOp] at hk
    simp only [aop, aCall] at h ⊢
    cases hc : c.callee with
    | value g => rw [hc] at hk; rcases hk with h | h <;> cases h
    | invoke r m => rw [hc] at h; cases h
    | builtin b =>
      rw [hc] at hk h
      simp only at h ⊢
      unfold aBuiltin at h ⊢
      cases hts : c.argTypes.toList with
      | nil => rw [hts] at h; cases h
      | cons t ts =>
        rw [hts] at h
        cases b <;> first
          | (rcases hk with h' | h' <;> cases h'; done)
          | exact ⟨(ofVal_some h).imp fun _ x => x.2, h⟩
          | skip
        simp only at h ⊢
        split at h
        · exact ⟨(ofVal_some h).imp fun _ x => x.2, h⟩
        · cases h

theorem cellsAt_mono {b : Nat} {cs : List AV} (h : ∀ o, hp.get b = some o → hp'.get b = some o) (hc : cellsAt hp b = some cs) : cellsAt hp' b = some cs := by
  unfold cellsAt at hc ⊢
  split at hc
  · rename_i hb
    rw [h _ hb]
    exact hc
  · cases hc

theorem cut_mono {b o n : Nat} {β : Type} {c : Option (List AV) → Option β} {r : β} (hn : c none = none) (h : ∀ o, hp.get b = some o → hp'.get b = some o) (hc : cut hp b o n c = some r) : cut hp' b o n c = some r := by
  unfold cut at hc ⊢
  split at hc
  · rw [hn] at hc; cases hc
  · rename_i cs hcs
    rw [cellsAt_mono h hcs]
    exact hc

/-- What reads, reads the blocks that it is handed, and them alone. -/
theorem aop_read {op : Op} (hk : kindOp T op = .read) {r : OpR} (h : aop T op tm hp nx = some r) (hloc : ∀ x ∈ op.operands, ∀ v b o, evalO tm x = some v → ment v = some b → hp.get b = some o → hp'.get b = some o) : aop T op tm hp' nx = some r := by
  cases op <;> first | (cases hk; done) | skip
  case load t x =>
    simp only [aop, aLoad] at h ⊢
    cases hx : evalO tm x with
    | none => rw [hx] at h; cases h
    | some pv =>
      rw [hx] at h
      simp only [loadA] at h ⊢
      cases hT : T.ty t with
      | none => rw [hT] at h; cases h
      | some i =>
        rw [hT] at h
        simp only at h ⊢
        cases pv <;> first | exact h | skip
        rename_i b o
        simp only at h ⊢
        cases hc : cellsAt hp b with
        | none => rw [hc] at h; cases h
        | some cs =>
          rw [hc] at h
          rw [cellsAt_mono (hloc x (by simp [Op.operands]) _ b · hx rfl) hc]
          exact h
  case lookup t m k ok =>
    have hm : ∀ es, mapAt hp (evalO tm m) = some es → mapAt hp' (evalO tm m) = some es := by
      intro es he
      cases hx : evalO tm m with
      | none => rw [hx] at he; cases he
      | some mv =>
        rw [hx] at he
        cases mv <;> first | exact he | skip
        rename_i b
        simp only [mapAt] at he ⊢
        split at he
        · rename_i es' clock hb
          rw [hloc m (by simp [Op.operands]) _ b _ hx rfl hb]
          exact he
        · cases he
    simp only [aop, aLookup] at h ⊢
    cases hT : T.ty t with
    | none => rw [hT] at h; cases h
    | some i =>
      rw [hT] at h
      simp only at h ⊢
      cases hd : i.desc <;> rw [hd] at h <;> first | (cases h; done) | skip
      rename_i kt et
      simp only at h ⊢
      cases hE : T.ty et with
      | none => rw [hE] at h; cases h
      | some e =>
        rw [hE] at h
        simp only at h ⊢
        cases hkv : evalO tm k with
        | none => rw [hkv] at h; cases h
        | some kv =>
          rw [hkv] at h
          simp only at h ⊢
          cases hko : keyOk T kt kv with
          | false => rw [hko] at h; cases h
          | true =>
            rw [hko, cond_true] at h
            rw [cond_true]
            cases hme : mapAt hp (evalO tm m) with
            | none => rw [hme] at h; cases h
            | some es =>
              rw [hme] at h
              rw [hm es hme]
              exact h
  case slice t x lo hi mx =>
    rw [kind_slice] at hk
    cases hi : T.ty t with
    | none => rw [hi] at hk; cases hk
    | some i => rw [hi] at hk; simp only at hk; cases hd : i.desc <;> rw [hd] at hk <;> cases hk
  case convert s d x =>
    simp only [kindOp] at hk
    simp only [aop, aConvert] at h ⊢
    cases hs : T.ty s with
    | none => rw [hs] at h; cases h
    | some si =>
      rw [hs] at hk h
      cases hd : T.ty d with
      | none => rw [hd] at h; cases h
      | some di =>
        rw [hd] at hk h
        simp only at hk h ⊢
        cases h1 : si.desc <;> rw [h1] at hk h <;> cases h2 : di.desc <;> rw [h2] at hk h <;> first
          | (cases hk; done)
          | skip
        simp only at h ⊢
        obtain ⟨v, hv, rfl⟩ := ofVal_some h
        suffices hs : aBytesStr T hp' _ (evalO tm x) = some v by rw [hs]; rfl
        unfold aBytesStr at hv ⊢
        split at hv
        · cases hv
        rename_i j hj
        cases hjd : j.desc <;> rw [hjd] at hv <;> first | (cases hv; done) | skip
        rename_i kk
        cases kk <;> first | (cases hv; done) | skip
        simp only at hv ⊢
        cases hx : evalO tm x with
        | none => rw [hx] at hv; cases hv
        | some xv =>
          rw [hx] at hv
          cases xv <;> first | exact hv | skip
          rename_i b o len cap
          simp only at hv ⊢
          exact cut_mono rfl (hloc x (by simp [Op.operands]) _ b · hx rfl) hv
  case call c =>
    simp only [kindOp] at hk
    simp only [aop, aCall] at h ⊢
    cases hc : c.callee with
    | value g => rw [hc] at hk; cases hk
    | invoke r m => rw [hc] at h; cases h
    | builtin b =>
      rw [hc] at hk h
      simp only at h ⊢
      unfold aBuiltin at h ⊢
      cases hts : c.argTypes.toList with
      | nil => rw [hts] at h; cases h
      | cons t ts =>
        rw [hts] at h
        cases b <;> first | (cases hk; done) | skip
        simp only at h ⊢
        cases hargs : c.args.toList with
        | nil => rw [hargs] at h; cases h
        | cons x xs =>
          rw [hargs] at h
          simp only at h ⊢
          obtain ⟨v, hv, rfl⟩ := ofVal_some h
          suffices hs : lenA T hp' t (evalO tm x) = some v by rw [hs]; rfl
          have hin : x ∈ (Op.call c).operands := by
            simp only [Op.operands, Call.operands, hc]
            simp
            have : x ∈ c.args.toList := by rw [hargs]; exact List.mem_cons_self ..
            simpa using this
          unfold lenA at hv ⊢
          split at hv
          · cases hv
          rename_i i hi
          simp only at hv ⊢
          cases hx : evalO tm x with
          | none =>
            rw [hx] at hv
            cases hd : i.desc <;> rw [hd] at hv <;> cases hv
          | some xv =>
            rw [hx] at hv
            cases hd : i.desc <;> rw [hd] at hv <;> cases xv <;> first | exact hv | (cases hv; done) | skip
            rename_i b
            simp only at hv ⊢
            split at hv
            · rename_i es clock hb
              rw [hloc x hin _ b _ hx rfl hb]
              exact hv
            · cases hv

/-- What makes, makes the block under the next number. -/
theorem aop_make {op : Op} (hk : kindOp T op = .make) {r : OpR} (h : aop T op tm hp nx = some r) : ∃ v ob, r = .new v ob ∧ (∀ o, ob = some o → ment v = some nx) ∧ (isSlice op = false → ob ≠ none) := by
  cases op <;> first | (cases hk; done) | skip
  case alloc t =>
    simp only [aop, aAlloc] at h
    split at h
    · simp only [Option.some.injEq] at h; exact ⟨_, _, h.symm, fun _ _ => rfl, fun _ x => nomatch x⟩
    · cases h
  case box t x =>
    simp only [aop, aBox] at h
    split at h
    · simp only [Option.some.injEq] at h; exact ⟨_, _, h.symm, fun _ _ => rfl, fun _ x => nomatch x⟩
    · cases h
  case buildSlice t len parts =>
    simp only [aop, aBuildSlice, repK_eq] at h
    split at h
    · cases h
    rename_i e j _
    cases hb : Nat.ble (len * j.size) 16777216 with
    | false => rw [hb] at h; cases h
    | true =>
      rw [hb, cond_true] at h
      split at h
      · cases h
      split at h
      · simp only [Option.some.injEq] at h; exact ⟨_, _, h.symm, fun _ _ => rfl, fun _ x => nomatch x⟩
      · cases h
  case makeSlice t l c =>
    simp only [aop, aMakeSlice, repK_eq] at h
    split at h
    · cases h
    rename_i e j _
    split at h
    rotate_left
    · cases h
    rename_i k n _
    split at h
    rotate_left
    · cases h
    rename_i k' m _
    cases hb : (Nat.ble n m && Nat.ble (m * j.bytes) 1048576 && Nat.ble m 1048576) with
    | false => rw [hb] at h; cases h
    | true =>
      rw [hb, cond_true] at h
      simp only [Option.some.injEq] at h
      exact ⟨_, _, h.symm, fun _ _ => rfl, fun _ x => nomatch x⟩
  case makeMap t r =>
    cases r with
    | some _ => cases h
    | none =>
      simp only [aop, Option.some.injEq] at h
      exact ⟨_, _, h.symm, fun _ _ => rfl, fun _ x => nomatch x⟩
  case range t x =>
    simp only [aop, aRange] at h
    split at h
    · cases h
    split at h
    · simp only [Option.some.injEq] at h; exact ⟨_, _, h.symm, fun _ _ => rfl, fun _ x => nomatch x⟩
    · cases h
  case slice t x lo hi mx =>
    rw [kind_slice] at hk
    simp only [aop, aSlice] at h
    cases mx with
    | some _ => cases h
    | none =>
      cases hi : T.ty t with
      | none => rw [hi] at h; cases h
      | some i =>
        rw [hi] at hk h
        simp only at hk h
        cases hd : i.desc <;> rw [hd] at hk h <;> first | (cases hk; done) | skip
        cases hx : evalO tm x with
        | none => rw [hx] at h; cases h
        | some xv =>
          rw [hx] at h
          cases xv <;> first | (cases h; done) | skip
          · simp only at h
            (repeat' split at h) <;> first | (cases h; done) | skip
            simp only [Option.some.injEq] at h
            exact ⟨_, _, h.symm, (fun _ x => nomatch x), fun x => nomatch x⟩
          · simp only at h
            (repeat' split at h) <;> first | (cases h; done) | skip
            simp only [Option.some.injEq] at h
            exact ⟨_, _, h.symm, (fun _ x => nomatch x), fun x => nomatch x⟩
  case convert s d x =>
    simp only [kindOp] at hk
    simp only [aop, aConvert] at h
    cases hs : T.ty s with
    | none => rw [hs] at h; cases h
    | some si =>
      rw [hs] at hk h
      cases hd : T.ty d with
      | none => rw [hd] at h; cases h
      | some di =>
        rw [hd] at hk h
        simp only at hk h
        cases h1 : si.desc <;> rw [h1] at hk h <;> cases h2 : di.desc <;> rw [h2] at hk h <;> first
          | (cases hk; done)
          | skip
        simp only [aStrBytes] at h
        (repeat' split at h) <;> first | (cases h; done) | skip
        simp only [Option.some.injEq] at h
        exact ⟨_, _, h.symm, fun _ _ => rfl, fun _ x => nomatch x⟩
  case call c =>
    simp only [kindOp] at hk
    cases hc : c.callee with
    | value g => rw [hc] at hk; cases hk
    | invoke r m => rw [hc] at hk; cases hk
    | builtin b => rw [hc] at hk; cases b <;> cases hk

end congr
end Go.Ev
