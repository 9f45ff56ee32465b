/- bourselaw17.StoreNil hands back true, out of the pieces: crc.Table, the examples of the chapters, the three calls, the whole. -/
import Derived.Test.YtkdhkmcamojkiaaGreatDoorIter
import Derived.Test.YtkdhkmcamojkiaaGreatDoorJoins
import Derived.Test.YtkdhkmcamojkiaaGreatDoorCrcA
import Derived.Test.YtkdhkmcamojkiaaGreatDoorCrcB
import Derived.Test.YtkdhkmcamojkiaaGreatDoorAwA
import Derived.Test.YtkdhkmcamojkiaaGreatDoorAwB
import Derived.Test.YtkdhkmcamojkiaaGreatDoorAwC
import Derived.Test.YtkdhkmcamojkiaaGreatDoorAwD
import Derived.Test.YtkdhkmcamojkiaaGreatDoorAwE
import Derived.Test.YtkdhkmcamojkiaaGreatDoorAwF
import Derived.Test.YtkdhkmcamojkiaaGreatDoorAwG
import Derived.Test.YtkdhkmcamojkiaaGreatDoorAwH
namespace Go.Proofs.YtkdhkmcamojkiaaGreatDoor
open Go.Ev Go.RowKit

section chain
variable {W : World} {u : TypeId} {v : Value} {ty : TypeId} {fr : Nat × Nat}

/-- crc.Table. -/
theorem crc_memo (hat : W.heap[3]? = some (.cells #[.iface u v] ty fr)) : MemoHas (ctx .leaf [] W) 411 crcTable := by
  have hC : (ctx .leaf [] W).Ok := ctx_ok hat
  have hrun := fun t r => ctx_run hC memo_leaf (fun _ hk => nomatch hk) 10000 t r
  have g3 := Good.loop (k'' := 16) (hrun _ _ crc_c3) (hrun _ _ crc_end)
  have g2 := Good.loop (k'' := 16) (hrun _ _ crc_c2) g3
  have g1 := Good.loop (k'' := 16) (hrun _ _ crc_c1) g2
  have g0 := Good.loop (k'' := 16) (hrun _ _ crc_c0) g1
  have gb := Good.block (Good.whole g0)
  have gs := Good.seq (hrun _ _ crc_r0) (Good.seq (hrun _ _ crc_r1) (Good.seq (Good.seq (hrun _ _ crc_r2) gb) (hrun _ _ crc_rest)))
  rw [← crc_code] at gs
  have gc := Good.body (fn := 411) (args := []) hC crc_nth crc_body gs crc_res
  exact memo_has (by kernel_rfl) gc rfl

theorem memo1_has (hat : W.heap[3]? = some (.cells #[.iface u v] ty fr)) (hooks : List Hook) : ∀ f x, memo1.get f = some x → MemoHas (ctx memo1 hooks W) f x :=
  memo_set memo_leaf ((crc_memo hat).retab (alike _ _ _ _ W))

/-- Facts of one memory are facts of another's context. -/
theorem memo_retab {m m' m0 : PT AV} {h h' : List Hook} (hm : ∀ f x, m0.get f = some x → MemoHas (ctx m h W) f x) : ∀ f x, m0.get f = some x → MemoHas (ctx m' h' W) f x :=
  fun f x hx => (hm f x hx).retab (alike _ _ _ _ W)

theorem memo2_has (hat : W.heap[3]? = some (.cells #[.iface u v] ty fr)) (hooks : List Hook) : ∀ f x, memo2.get f = some x → MemoHas (ctx memo2 hooks W) f x := by
  have hrun := fun t r => ctx_run (ctx_ok hat) (memo1_has hat []) (fun _ hk => nomatch hk) 10000 t r
  have h : ∀ {f : Nat}, saysTrue (run (tabsWith memo1 []) 10000 (.call f [] .leaf 0)) = true → MemoHas (ctx memo2 hooks W) f (.bool true) := fun ha => (says_memo hrun ha).retab (alike _ _ _ _ W)
  exact memo_set (memo_set (memo_set (memo_set (memo_set (memo_set (memo_set (memo_set (memo_set (memo_retab (memo1_has hat [])) (h aw311)) (h aw415)) (h aw416)) (h aw312)) (h aw313)) (h aw310)) (h aw37)) (h aw36)) (h aw35)

theorem memo3_has (hat : W.heap[3]? = some (.cells #[.iface u v] ty fr)) (hooks : List Hook) : ∀ f x, memo3.get f = some x → MemoHas (ctx memo3 hooks W) f x := by
  have hrun := fun t r => ctx_run (ctx_ok hat) (memo2_has hat []) (fun _ hk => nomatch hk) 10000 t r
  exact memo_set (memo_retab (memo2_has hat [])) ((says_memo hrun aw34).retab (alike _ _ _ _ W))

theorem memo4_has (hat : W.heap[3]? = some (.cells #[.iface u v] ty fr)) : ∀ f x, memo4.get f = some x → MemoHas (ctx memo4 [] W) f x := by
  have hrun0 := fun t r => ctx_run (ctx_ok hat) (memo3_has hat []) (fun _ hk => nomatch hk) 10000 t r
  have hA : HookHas (ctx memo3 [] W) hookA := hook_has hrun0 hkA
  have hCC : HookHas (ctx memo3 [] W) hookC := hook_has hrun0 hkC
  have hrunA := fun t r => ctx_run (ctx_ok hat) (memo3_has hat [hookA]) (fun k hk => by
    rw [List.mem_singleton] at hk
    subst hk
    exact hA.retab (alike _ _ _ _ W)) 10000 t r
  have hB : HookHas (ctx memo3 [hookA] W) hookB := hook_has hrunA hkB
  have hrunB := fun t r => ctx_run (ctx_ok hat) (memo3_has hat [hookB, hookC]) (fun k hk => by
    rcases List.mem_cons.1 hk with rfl | hk
    · exact hB.retab (alike _ _ _ _ W)
    · rw [List.mem_singleton] at hk
      subst hk
      exact hCC.retab (alike _ _ _ _ W)) 10000 t r
  exact memo_set (memo_retab (memo3_has hat [])) ((says_memo hrunB aw7).retab (alike _ _ _ _ W))

theorem nil_memo (hat : W.heap[3]? = some (.cells #[.iface u v] ty fr)) : MemoHas (ctx memo4 [] W) 3 (.bool true) :=
  says_memo (fun t r => ctx_run (ctx_ok hat) (memo4_has hat) (fun _ hk => nomatch hk) 10000 t r) aw3

/-- bourselaw17.StoreNil: true; nothing that lay before has turned. -/
theorem nil_calls (hat : W.heap[3]? = some (.cells #[.iface u v] ty fr)) : Calls Tryz.prog 3 #[] W fun e w' => e = .returned (.bool true) ∧ Below W.heap.size W w' := by
  exact callsIn_wide.1 (nil_memo hat).calls

end chain
end Go.Proofs.YtkdhkmcamojkiaaGreatDoor
