/- The statement WindBetween: for every input the law returns true, and each argument reads afterwards as it read before. -/
import Derived.Test.YtneeobmefioenaaGeBetween
import Derived.Test.YtneeobmefioenaaRows
import Derived.ProofKit
import Derived.OpenShut
import Derived.Deep.Slices
import Derived.Deep.Strs
namespace Go.Ge
open Go Go.RowKit Go.Proofs Go.Deep Go.ChangeShapes Go.WideShapes Go.ChangeAt

theorem Try.cells27 : Try.prog.cellsOf 27 = 2 := by kernel_rfl
theorem Try.cells29 : Try.prog.cellsOf 29 = 6 := by kernel_rfl
theorem Try.cells31 : Try.prog.cellsOf 31 = 7 := by kernel_rfl
theorem Try.cells23 : Try.prog.cellsOf 23 = 3 := by kernel_rfl
theorem Try.cells3 : Try.prog.cellsOf 3 = 1 := by kernel_rfl
def valsI (l : List Int) : List Value := l.map fun n => .int .i64 n
theorem valsI_VRs (c : Cx) : ∀ l : List Int, VRs c (l.map fun n => V.i .i64 n) (valsI l)
  | [] => .nil
  | n :: r => .cons (.i .i64 n) (valsI_VRs c r)
section
variable {H : Type} {enc : TypeId × Value → H} {w : World} {base : Nat} {spare : Nat → Bool} {held : Bool}
theorem open_i {n : Nat} {cs : List Value} {x : DataW H × List MemPlace} (h : DataW.trod enc Try.prog w base spare held n 3 cs = some x) : ∃ a : Int, cs = valsI [a] := by
  obtain ⟨a, e0, _⟩ := DataW.trod_int Try.underlying3 h
  exact ⟨a, e0⟩
theorem open_r {n : Nat} {cs : List Value} {x : DataW H × List MemPlace} (h : DataW.trod enc Try.prog w base spare held n 27 cs = some x) : ∃ a b : Int, cs = valsI [a, b] := by
  obtain ⟨y0, y1, m, _, hl, h0, h1⟩ := trod_struct2 Try.underlying27 h
  rw [Try.cells27] at hl
  simp only [Try.cells3] at h0 h1
  match cs, hl with
  | [c0, c1], _ =>
    obtain ⟨a, e0⟩ := open_i h0
    obtain ⟨b, e1⟩ := open_i h1
    simp [valsI] at e0 e1
    exact ⟨a, b, by rw [e0, e1]; rfl⟩
theorem open_b {n : Nat} {cs : List Value} {x : DataW H × List MemPlace} (h : DataW.trod enc Try.prog w base spare held n 29 cs = some x) : ∃ a b c d e f : Int, cs = valsI [a, b, c, d, e, f] := by
  obtain ⟨y0, y1, y2, m, _, hl, h0, h1, h2⟩ := trod_struct3 Try.underlying29 h
  rw [Try.cells29] at hl
  simp only [Try.cells27] at h0 h1 h2
  match cs, hl with
  | [c0, c1, c2, c3, c4, c5], _ =>
    obtain ⟨a, b, e0⟩ := open_r h0
    obtain ⟨c, d, e1⟩ := open_r h1
    obtain ⟨e, f, e2⟩ := open_r h2
    simp [valsI] at e0 e1 e2
    exact ⟨a, b, c, d, e, f, by rw [e0.1, e0.2, e1.1, e1.2, e2.1, e2.2]; rfl⟩
def layI (y : Lay) : List Int := [y.1, y.2.1.1, y.2.1.2, y.2.2.1.1, y.2.2.1.2, y.2.2.2.1, y.2.2.2.2]
theorem open_l {n : Nat} {cs : List Value} {x : DataW H × List MemPlace} (h : DataW.trod enc Try.prog w base spare held n 31 cs = some x) : ∃ y : Lay, cs = valsI (layI y) := by
  obtain ⟨y0, y1, m, _, hl, h0, h1⟩ := trod_struct2 Try.underlying31 h
  rw [Try.cells31] at hl
  simp only [Try.cells3, Try.cells29] at h0 h1
  match cs, hl with
  | [c0, c1, c2, c3, c4, c5, c6], _ =>
    obtain ⟨a, e0⟩ := open_i h0
    obtain ⟨b, c, d, e, f, g, e1⟩ := open_b h1
    simp [valsI] at e0 e1
    exact ⟨(a, (b, c), (d, e), (f, g)), by rw [e0, e1.1, e1.2.1, e1.2.2.1, e1.2.2.2.1, e1.2.2.2.2.1, e1.2.2.2.2.2]; rfl⟩
theorem open_a3 {n : Nat} {cs : List Value} {x : DataW H × List MemPlace} (h : DataW.trod enc Try.prog w base spare held n 23 cs = some x) : ∃ a b c : Int, cs = valsI [a, b, c] := by
  obtain ⟨xs, m, _, _, hl, hxs, hi⟩ := DataW.trod_array Try.underlying23 h
  rw [Try.cells23] at hl
  simp only [Try.cells3] at hi
  match cs, hl, xs, hxs with
  | [c0, c1, c2], _, [x0, x1, x2], _ =>
    obtain ⟨a, e0⟩ := open_i (hi 0 (by omega))
    obtain ⟨b, e1⟩ := open_i (hi 1 (by omega))
    obtain ⟨c, e2⟩ := open_i (hi 2 (by omega))
    simp [valsI] at e0 e1 e2
    exact ⟨a, b, c, by rw [e0, e1, e2]; rfl⟩
end
theorem rows_len {α : Type} (f : Nat → List α) (s : Nat) (hs : ∀ i, (f i).length = s) : ∀ n : Nat, ((List.range n).flatMap f).length = n * s
  | 0 => by simp
  | n + 1 => by rw [List.range_succ, List.flatMap_append, List.length_append, rows_len f s hs n, List.flatMap_singleton, hs, Nat.succ_mul]
theorem rows_get {α : Type} (f : Nat → List α) (s : Nat) (hs : ∀ i, (f i).length = s) : ∀ (n j : Nat) (v : α), ((List.range n).flatMap f)[j]? = some v → ∃ i r, i < n ∧ r < s ∧ j = i * s + r ∧ (f i)[r]? = some v
  | 0, j, v, h => by simp at h
  | n + 1, j, v, h => by
    have hlen := rows_len f s hs n
    rw [List.range_succ, List.flatMap_append, List.flatMap_singleton] at h
    rcases Nat.lt_or_ge j (n * s) with hj | hj
    · rw [List.getElem?_append_left (by omega)] at h
      obtain ⟨i, r, a, b, c, d⟩ := rows_get f s hs n j v h
      exact ⟨i, r, by omega, b, c, d⟩
    · rw [List.getElem?_append_right (by omega), hlen] at h
      have := get_lt h
      rw [hs] at this
      exact ⟨n, j - n * s, by omega, this, by omega, h⟩
theorem lays_VRs (c : Cx) : ∀ l : List Lay, VRs c (l.flatMap (unpack (t := layT) true)) (l.flatMap fun y => valsI (layI y))
  | [] => .nil
  | y :: r => by
    rw [List.flatMap_cons, List.flatMap_cons]
    exact (valsI_VRs c (layI y)).append (lays_VRs c r)
/-- A slice of layers that came in. -/
theorem open_lays {H : Type} {enc : TypeId × Value → H} {w : World} {fuel : Nat} {a0 : Option Addr} {len cap : Nat} {x : DataW H × List MemPlace} (h : DataW.trod enc Try.prog w 0 (fun _ => true) true fuel 22 [.slice a0 len cap] = some x) :
    ∃ l : List Lay, VR ⟨w, fun _ => False, fun _ => { blk := 0 }, fun _ => False⟩ (.sl layT l true false) (.slice a0 len cap) := by
  rcases open_slice Try.underlying22 h with ⟨hcs, _⟩ | ⟨a, len', cap', m, n, D, Pl, hcs, _, hl, _, hm, _, hx⟩
  · simp at hcs
    obtain ⟨rfl, rfl, rfl⟩ := hcs
    exact ⟨[], .slE _ _ _ _ _ (by simp)⟩
  · simp at hcs
    obtain ⟨rfl, rfl, rfl⟩ := hcs
    simp only [if_true] at hm
    subst hm
    rw [Try.cells31] at hx
    by_cases h0 : len = 0
    · subst h0
      exact ⟨[], .slE _ _ _ _ _ (by simp)⟩
    obtain ⟨y, hy⟩ := choose_lt (α := Lay) (n := len) (p := fun i y => w.cells? 0 (a.add (i * 7)) 7 = some (valsI (layI y))) (fun i hi => by
      obtain ⟨cs', h1, h2⟩ := hx i (by omega)
      obtain ⟨y, rfl⟩ := open_l h2
      exact ⟨y, h1⟩)
    have hc : ∀ i r, i < len → r < 7 → w.cell? ((a.add (i * 7)).add r) = (valsI (layI (y i)))[r]? := fun i r hi hr => (World.cells?_some (hy i hi)).2.2 r hr
    obtain ⟨blk, off, spot⟩ := a
    have hc0 := hc 0 0 (by omega) (by omega)
    have hv0 : (valsI (layI (y 0)))[0]? = some (.int .i64 (y 0).1) := rfl
    rw [hv0] at hc0
    have hspot : spot = none := by simpa [Addr.add] using World.cell?_spot hc0
    subst hspot
    have hc' : ∀ i r, i < len → r < 7 → w.cell? ⟨blk, off + (i * 7 + r), none⟩ = (valsI (layI (y i)))[r]? := by
      intro i r hi hr
      have := hc i r hi hr
      rw [add_plain, add_plain, Nat.add_assoc] at this
      exact this
    have hblk : blk < w.heap.size := by
      have := hc' 0 0 (by omega) (by omega)
      rw [hv0] at this
      unfold World.cell? at this
      split at this
      · rename_i he
        simp only at he
        rcases Nat.lt_or_ge blk w.heap.size with hb | hb
        · exact hb
        · simp [Array.getElem?_eq_none hb] at he
      · simp at this
    refine ⟨(List.range len).map y, ?_⟩
    have hlen : ((List.range len).map y).length = len := by simp
    have := VR.slN (c := ⟨w, fun _ => False, fun _ => { blk := 0 }, fun _ => False⟩) layT ((List.range len).map y) true false blk off m (((List.range len).map y).flatMap fun y => valsI (layI y)) hblk (fun h => h) (fun h => by cases h) (by rw [hlen]; exact hl) (fun h => by cases h) ?_ (lays_VRs _ _)
    · rw [hlen] at this
      exact this
    · intro j v hj
      rw [List.flatMap_map] at hj
      obtain ⟨i, r, hi, hr, rfl, hv⟩ := rows_get (fun i => valsI (layI (y i))) 7 (fun i => rfl) len j v hj
      show w.cell? ⟨blk, off + (i * 7 + r), none⟩ = some v
      rw [hc' i r hi hr, hv]
end Go.Ge
