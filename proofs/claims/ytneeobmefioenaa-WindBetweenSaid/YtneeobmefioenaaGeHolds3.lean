/- The statement WindBetween is proved: for every input the law returns true, and each argument reads afterwards as it read before. No condition. -/
import Derived.Test.YtneeobmefioenaaGeLift3
namespace Go.Proofs.Ytneeobmefioenaa
open Go.ChangeShapes Go.WideShapes Go.ChangeAt Go.RowKit

theorem Try.own : ownKnob Try.prog.godebug = none := by kernel_rfl
theorem Try.laidOut : laidOutB Try.prog = true := by kernel_rfl
theorem agg_of_cells {v : Value} {a b c : Value} (h : v.cells.toList = [a, b, c]) : v = .agg [a, b, c].toArray := by
  cases v <;> simp [Value.cells] at h ⊢
  apply Array.ext'
  simpa using h
set_option maxRecDepth 100000 in
theorem between_lifted (os : Os) (started : os.Started) (H : Type) (enc : TypeId × Value → H) :
    ReturnsInHanded {} Try.checked os 3 .any (Rows.windBetweenSpec.pre6 enc Try.prog Try.f3 Rows.windBetweenRow.domain false) (Rows.windBetweenSpec.post enc Try.prog Try.f3 false true false false) := by
  refine returnsInHanded_of_change (C := Try.checked) Try.own started (by kernel_rfl) Try.func3
    (ChangeSpec.witness6 (enc := enc) (C := Try.checked) false ⟨#[], #[.slice none 0 0, .agg #[.int .i64 0, .int .i64 0, .int .i64 0]], []⟩ 8 (by kernel_rfl) (by kernel_rfl) (by kernel_rfl) (by kernel_rfl)) ?_
  intro W base args ds gs before hval0 hW _ _
  have hval : ∀ (j : Nat) t v, Try.f3.params[j]? = some t → args[j]? = some v → Value.okWide Try.prog W .any base t v := hval0
  have hW' := hW
  obtain ⟨p, q, hA0, hV, rfl, _, _⟩ := hW
  have hA : DataW.TrodAll enc Try.prog W 0 (fun _ => true) true Try.f3.params.toList args.toList ds p := hA0
  rw [Try.params3] at hA hval
  obtain ⟨v0, v1, d0, d1, p0, p1, rfl, rfl, rfl, h0, h1⟩ := trodAll_two hA
  obtain ⟨rfl, rfl⟩ := trodVars_none hV
  obtain ⟨a0, len, cap, rfl⟩ := okWide_slice Try.underlying22 (hval 0 22 v0 rfl rfl)
  have h0k := h0
  have h1k := h1
  obtain ⟨fuel0, hf0⟩ := h0
  obtain ⟨fuel1, hf1⟩ := h1
  clear hA0 hval0
  simp only [List.append_nil] at hW'
  have hlt : ∀ x ∈ p0 ++ p1, x.block < W.heap.size := fun x hx => by simpa using hW'.lt x hx
  obtain ⟨l, hl⟩ := Ge.open_lays hf0
  obtain ⟨x0, x1, x2, hx⟩ := Ge.open_a3 hf1
  obtain rfl := agg_of_cells hx
  have hargs : Ge.VRs ⟨W, fun _ => False, fun _ => { blk := 0 }, fun _ => False⟩ [.sl Ge.layT l true false, .agg [.i .i64 x0, .i .i64 x1, .i .i64 x2]] [.slice a0 len cap, .agg [.int .i64 x0, .int .i64 x1, .int .i64 x2].toArray] :=
    .cons hl (.cons (.agg _ _ rfl (Ge.valsI_VRs _ [x0, x1, x2])) .nil)
  refine (callsIn_wide.1 ((Ge.between_ok l x0 x1 x2).calls W (fun _ => False) _ _ 0 (fun _ h => h.elim) hargs)).mono fun e W' ⟨v, v', he, hb, hv, _, hg⟩ => ?_
  subst he
  subst hg
  cases hv
  have hbelow := hb.go
  refine ⟨_, rfl, _, _, _, [] ++ [], p0 ++ p1, [], hW', ?_, ?_, rfl, hbelow.frame _, fun h => by cases h⟩
  · exact trodAll_mk1 (shut_bool Try.underlying4 true)
  · exact trodAll_mk2 (Below.trod Try.laidOut (by kernel_rfl) (of_decide_eq_true (by kernel_rfl)) h0k hbelow fun x hx => hlt x (List.mem_append_left _ hx))
      (Below.trod Try.laidOut (by kernel_rfl) (of_decide_eq_true (by kernel_rfl)) h1k hbelow fun x hx => hlt x (List.mem_append_right _ hx))

theorem between_holds : Rows.WindBetweenSaid :=
  OpenClaim.holds_of_wide 3 Try.f3 rfl rfl rfl rfl rfl rfl rfl ⟨rfl, rfl, rfl, rfl, rfl⟩ rfl rfl rfl rfl rfl (by kernel_rfl) Try.func3 (by kernel_rfl)
    (of_decide_eq_true (by kernel_rfl)) (by unfold Func.isWrapper; rw [if_neg (by decide +kernel)]; exact ⟨rfl, rfl⟩)
    (fun os started H enc _ => between_lifted os started H enc)
end Go.Proofs.Ytneeobmefioenaa
