/- Pieces of a run joined: what is shown of each is so of the whole. -/
import Derived.Test.YtkdhkmcamojkiaaGreatDoorHooks
namespace Go.Ev

section joins
variable {C : Ctx}

theorem Good.seq {ro : Option Nat} {c d : Code} {sz nx n1 n2 : Nat} {tm tm1 tm2 : PT AV} {hp hp1 hp2 : Heap} {x : X} (g1 : Good C (.code ro c sz tm hp nx) (.out .normal tm1 hp1 n1)) (g2 : Good C (.code ro d sz tm1 hp1 n1) (.out x tm2 hp2 n2)) :
    Good C (.code ro (.seq c d) sz tm hp nx) (.out x tm2 hp2 n2) :=
  PieceOk.andThen (fun F n Q => Exit.then (d.wpIn F n C.P Q) Q) g1 g2 (fun _ _ _ _ _ h => wpIn_seq h) (fun _ _ _ _ _ h => h)

theorem Good.loop {ro : Option Nat} {b : Code} {k k' k'' sz nx n1 n2 : Nat} {tm tm1 tm2 : PT AV} {hp hp1 hp2 : Heap} {x : X} (g1 : Good C (.loop ro b k sz tm hp nx) (.out .normal tm1 hp1 n1)) (g2 : Good C (.loop ro b k' sz tm1 hp1 n1) (.out x tm2 hp2 n2)) :
    Good C (.loop ro b k'' sz tm hp nx) (.out x tm2 hp2 n2) :=
  PieceOk.andThen (fun _ _ Q => Q) g1 g2 (fun _ _ _ _ _ h => h) (fun _ _ _ _ _ h => h)

theorem Good.whole {ro : Option Nat} {b : Code} {k id sz nx n1 : Nat} {tm tm1 : PT AV} {hp hp1 : Heap} (g : Good C (.loop ro b k sz tm hp nx) (.out (.exit id) tm1 hp1 n1)) : Good C (.code ro (.loop b) sz tm hp nx) (.out (.exit id) tm1 hp1 n1) :=
  PieceOk.map (fun _ _ Q => Q) g (fun _ _ _ _ _ h => wpIn_loopAt h) fun _ _ _ _ _ h' => h'

theorem Good.block {ro : Option Nat} {b : Code} {id sz nx n1 : Nat} {tm tm1 : PT AV} {hp hp1 : Heap} (g : Good C (.code ro b sz tm hp nx) (.out (.exit id) tm1 hp1 n1)) : Good C (.code ro (.block id b) sz tm hp nx) (.out .normal tm1 hp1 n1) :=
  PieceOk.map (fun F n Q => Exit.inBlock id Q) g (fun _ _ _ _ _ h => wpIn_block h) fun _ _ _ _ _ h' => by
    simp only [X.conc, Exit.inBlock, if_true]; exact h'

/-- A function out of its body. -/
theorem Good.body (hC : C.Ok) {fn : Nat} {args : List AV} {i : Func} {c : Code} {tm' : PT AV} {hp hp' : Heap} {nx nx' : Nat} {vs : List AV} (hi : nth C.T.funcs fn = some i) (hc : i.body = some c)
    (g : Good C (.code none c (bif Nat.ble args.length i.ntmps then i.ntmps else args.length) (argsTm args 0 .leaf) hp nx) (.out .ret tm' hp' nx')) (hvs : readRes C.T tm' hp' i.results.toList = some vs) :
    Good C (.call fn args hp nx) (.val (oneOf vs) hp' nx') := by
  classical
  refine body_good (rec := fun t => if t = .code none c (bif Nat.ble args.length i.ntmps then i.ntmps else args.length) (argsTm args 0 .leaf) hp nx then some (.out .ret tm' hp' nx') else none) hC (fun t r h => ?_) ?_
  · split at h
    · rename_i ht
      simp only [Option.some.injEq] at h
      subst h
      subst ht
      exact g
    · cases h
  · unfold doBodyOf
    simp only [hi, hc, if_true, hvs]

end joins
end Go.Ev
