/- slices.Sorted(maps.Keys(m)) at this program: the kit's contracts laid at this dump (their numbers: the text Lays), in the form that the evaluator asks for. -/
import Derived.Test.YtkdhkmcamojkiaaGreatDoorLays
import Derived.Test.YtkdhkmcamojkiaaGreatDoorFacts
namespace Go.Proofs
open Go.RowKit Go.Maps Go.Sort Go.Shelf

theorem Tryz.sorts152 (m : Nat) : AnyZ.SortsIn Tryz.prog Tryz.sorted152_ren Fence.wide m :=
  ⟨fun blk off cap ss W hH hblk hsz => callsIn_wide.2 (AnyM.slices_Sort_string Tryz.sort59 blk off cap ss W hH hblk hsz),
   fun p cap W => callsIn_wide.2 (AnyM.slices_Sort_string_none Tryz.sort59 p cap W)⟩

set_option maxHeartbeats 1000000 in
theorem Tryz.sorted_keys (B b nn : Nat) (D0 : DataW Unit) (R : Value → Option (DataW Unit × List MemPlace)) (w : World) (hB : B < w.heap.size) (hm : w.cell? ⟨B, 0, none⟩ = some (.map (some b))) (hown : w.ownsMap Tryz.prog 9 R b nn D0) (hmax : Maps.size D0 ≤ maxLen) (hbytes : Maps.size D0 * 16 ≤ 140737488355328) :
    CallsIn Fence.wide 5 Tryz.prog 152 #[.func (.func 268) #[] #[.pointer (some ⟨B, 0, none⟩)]] w fun e w' => ∃ (v : Value) (ss : List (List UInt8)), e = .returned v ∧ ss.Perm (strKeys D0) ∧
      w'.ownsRow w.heap.size 9 1 v ss.length ((ss.mergeSort (fun x y => decide (x ≤ y))).map encStr) ∧ (v = .slice none 0 0 ↔ ss = []) ∧ Below w.heap.size w w' := by
  have hseq : SeqGives Fence.wide 2 Tryz.prog 268 #[.pointer (some ⟨B, 0, none⟩)] encStr (fun ss => ss.Perm (strKeys D0)) (Maps.size D0) w :=
    AnyZ.keys_gives (ρ := Tryz.keys153_ren) { Tryz.keys153 with } Fence.wide _ trivial rfl (by omega) B b nn D0 w hB hm hown
  exact AnyZ.sorted_in Tryz.sorted152 Fence.wide 5 trivial trivial trivial trivial rfl (by omega) (Tryz.sorts152 _) (enters_of Tryz.func59 (by kernel_rfl) rfl) 268 #[.pointer (some ⟨B, 0, none⟩)] trivial (enters_of Tryz.func268 (by kernel_rfl) rfl) _ _ hmax hbytes _ hseq

namespace YtkdhkmcamojkiaaGreatDoor
open Go.Ev

theorem sort_has (memo : PT AV) (hooks : List Hook) (W : World) : SortHas (ctx memo hooks W) := fun B b nn D0 R w hB hm hown hmax hbytes =>
  Tryz.sorted_keys B b nn D0 R w hB hm hown hmax hbytes

theorem ctx_sort (memo : PT AV) (hooks : List Hook) (W : World) : SortOk (ctx memo hooks W) :=
  sort_ok ⟨Tryz.f152, Tryz.func152, by kernel_rfl⟩ (show Tryz.prog.underlying 9 = some .string from Tryz.underlying9) (sort_has memo hooks W)

/-- What 'run' says in this context is so. -/
theorem ctx_run {memo : PT AV} {hooks : List Hook} {W : World} (hC : (ctx memo hooks W).Ok) (hM : ∀ fn v, memo.get fn = some v → MemoHas (ctx memo hooks W) fn v) (hH : ∀ k ∈ hooks, HookHas (ctx memo hooks W) k) (f : Nat) (t : Task) (r : Res)
    (h : run (tabsWith memo hooks) f t = some r) : Go.Ev.Good (ctx memo hooks W) t r :=
  run_good (C := ctx memo hooks W) hC hM (hooks_ok hH) (ctx_sort memo hooks W) (drawn_ok hC) f t r h

theorem alike (m m' : PT AV) (h h' : List Hook) (W : World) : Go.Ev.Alike (ctx m h W) (ctx m' h' W) := ⟨rfl, rfl, rfl⟩

end YtkdhkmcamojkiaaGreatDoor
end Go.Proofs
