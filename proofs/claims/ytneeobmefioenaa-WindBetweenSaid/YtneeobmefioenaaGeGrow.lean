/- slices.Grow of vectors, at nil. -/
import Derived.Test.YtneeobmefioenaaGeFun
import Derived.Test.YtneeobmefioenaaGeIrB
import Derived.Test.YtneeobmefioenaaProg
import Derived.Shelf.Spec.SlicesGrow
namespace Go.Proofs
open Go.Shelf Go.RowKit
def Try.growV_ren : Go.Shelf.Ren := ⟨fun | 4 => 112 | n => n, fun | 22 => 99 | 25 => 112 | 3 => 3 | 4 => 4 | 9 => 9 | 20 => 20 | 0 => 0 | n => n, fun | n => n⟩
theorem Try.growV : Go.Proofs.Lays8.n4 Try.prog Try.growV_ren := {
  mixed := by kernel_rfl
  f4 := ⟨Try.f112.name, by decide, Try.func112.trans (congrArg some (by kernel_rfl))⟩
  t0 := Try.underlying0
  a0 := Try.isAgg0
  z0 := Try.sizeOf0
  v0 := Try.zeroValue0
  t3 := Try.underlying3
  a3 := Try.isAgg3
  z3 := Try.sizeOf3
  v3 := Try.zeroValue3
  t4 := Try.underlying4
  a4 := Try.isAgg4
  z4 := Try.sizeOf4
  v4 := Try.zeroValue4
  t9 := Try.underlying9
  a9 := Try.isAgg9
  z9 := Try.sizeOf9
  v9 := Try.zeroValue9
  t20 := Try.underlying20
  a20 := Try.isAgg20
  z20 := Try.sizeOf20
  v20 := Try.zeroValue20
  t22 := Try.underlying99
  a22 := Try.isAgg99
  z22 := Try.sizeOf99
  v22 := Try.zeroValue99 }
end Go.Proofs
namespace Go.Ge
open Go Go.RowKit Go.Proofs
/-- The type of a vector. -/
abbrev vecTy : Ty := .prod (.int .i64) (.prod (.int .i64) (.int .i64))
def growInfo (P : Program) (t : TypeId) : Bool := match P.info? t with
  | some i => (match i.zero with | some z => Nat.beq z.cells.size 3 | none => false) && Nat.beq i.size 3 && Nat.ble i.bytes 1000
  | none => false
theorem growInfo_ok : growInfo Try.prog (Try.growV_ren.t 25) = true := by decide +kernel
theorem grow_ok (n : Nat) (hn : n ≤ 1000000) : GrowOk Try.prog 112 vecTy n := by
  have hf : Try.growV_ren.f 4 = 112 := by decide +kernel
  refine ⟨⟨Try.f112, Try.func112, by decide +kernel, by decide +kernel⟩, fun w m => callsIn_wide.2 ?_⟩
  cases n with
  | zero =>
    have h := Any8.slices_Grow_room Try.growV none 0 0 0 w (Nat.le_refl _) (by omega) (by omega) (by omega)
    rw [hf] at h
    refine Calls.mono h fun e w' he => ?_
    obtain ⟨rfl, rfl⟩ := he
    exact ⟨Below.refl _ _, none, 0, rfl, fun _ => rfl, fun h => absurd h (by omega)⟩
  | succ n =>
    have hi := growInfo_ok
    unfold growInfo at hi
    split at hi
    · rename_i i0 hi0
      simp only [Bool.and_eq_true, Nat.beq_eq, Nat.ble_eq] at hi
      obtain ⟨⟨h1, h2⟩, h3⟩ := hi
      split at h1
      · rename_i z hz
        simp only [Nat.beq_eq] at h1
        have h := Any8.slices_Grow_grow Try.growV i0 z hi0 hz (by omega) none 0 0 (n + 1) [] w (Nat.le_refl _) (by omega) (by
          have := Nat.mul_le_mul (show 0 + (n + 1) ≤ 1000000 by omega) h3
          omega) (by omega) (by simp) (fun _ => rfl) (fun a h => by simp at h)
        rw [hf] at h
        refine Calls.mono h fun e w' he => ?_
        obtain ⟨rfl, rfl⟩ := he
        have hge := grownCap_ge w (0 + (n + 1)) 0 (Try.growV_ren.t 25)
        refine ⟨((Below.refl _ _).drew).alloc (Nat.le_refl _) _, _, _, rfl, fun h => absurd h (by omega), fun _ => ⟨w.heap.size, ((#[] : Array Value) ++ Builtin.zeroCells z.cells (0 + (n + 1) - 0) ++ Builtin.zeroCells z.cells (grownCap w (0 + (n + 1)) 0 (Try.growV_ren.t 25) - (0 + (n + 1)))).toList, Try.growV_ren.t 25, rfl, Nat.le_refl _, by simp, ?_, ?_⟩⟩
        · rw [Array.toArray_toList]
          show (w.heap.push _)[w.heap.size]? = _
          simp
        · have e3 : tsize vecTy = 3 := rfl
          simp only [Array.length_toList, Array.size_append, size_zeroCells, h1, e3, ← Nat.add_mul, Array.size_empty]
          omega
      · simp at h1
    · simp at hi
end Go.Ge
