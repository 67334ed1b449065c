/- The hooks hold to what they say. -/
import Derived.Test.YtneeobmefioenaaGeSort2
namespace Go.Ge
open Go Go.RowKit Go.Proofs

theorem prog_ok : (progT.all fun f F => match Try.prog.funcs[f]? with | some fn => funcOk Try.prog fn F | none => false) = true := by decide +kernel
theorem prog_fn {f : Nat} {F : IF} (h : prog f = some F) : ∃ fn, Try.prog.funcs[f]? = some fn ∧ funcOk Try.prog fn F = true := by
  have := Tr.get_all prog_ok h
  split at this
  · rename_i fn hfn
    exact ⟨fn, hfn, this⟩
  · simp at this
theorem f50_ok : funcOk Try.prog Try.f50 f50 = true := by decide +kernel
def libW : Lib := ⟨50, 112, .prod (.int .i64) (.prod (.int .i64) (.int .i64)), 103, 104⟩
theorem joinR_law {R : Type} {eq : R → R → Bool} (he : ∀ a b, eq a b = true → a = b) {r : R} : ∀ {l : List (Option R)}, joinR eq l = some r → ∀ x, x ∈ l → x = some r
  | [], h, _, _ => by simp [joinR] at h
  | [x], h, y, hy => by
    simp only [joinR] at h
    simp only [List.mem_singleton] at hy
    rw [hy]; exact h
  | x :: z :: l, h, y, hy => by
    simp only [joinR] at h
    split at h
    · rename_i u hu
      split at h
      · rename_i v
        simp only [cond_eq_ite] at h
        split at h
        · rename_i hvu
          have := he _ _ hvu
          simp only [Option.some.injEq] at h
          rcases List.mem_cons.1 hy with rfl | hy
          · rw [h]
          · exact joinR_law he (by rw [hu, ← this, h]) y hy
        · simp at h
      · simp at h
    · simp at h
theorem ins1_perm {α : Type} {x : α} : ∀ {l m : List α}, m ∈ ins1 x l → m.Perm (x :: l)
  | [], m, h => by simp [ins1] at h; subst h; exact .refl _
  | y :: r, m, h => by
    simp only [ins1, List.mem_cons, List.mem_map] at h
    rcases h with rfl | ⟨z, hz, rfl⟩
    · exact .refl _
    · exact ((ins1_perm hz).cons y).trans (List.Perm.swap x y r)
theorem ins1_mem {α : Type} {x : α} : ∀ (a b : List α), (a ++ x :: b) ∈ ins1 x (a ++ b)
  | [], [] => by simp [ins1]
  | [], y :: b => by simp [ins1]
  | y :: a, b => by
    simp only [List.cons_append, ins1, List.mem_cons, List.mem_map]
    exact .inr ⟨a ++ x :: b, ins1_mem a b, rfl⟩
theorem perms_mem {α : Type} : ∀ {l m : List α}, m.Perm l → m ∈ perms l
  | [], m, h => by simp [perms, List.Perm.eq_nil h]
  | x :: r, m, h => by
    have hx : x ∈ m := h.symm.subset (by simp)
    obtain ⟨a, b, rfl⟩ := List.append_of_mem hx
    have h2 : (a ++ b).Perm r := (List.perm_cons x).1 ((List.perm_middle.symm).trans h)
    simp only [perms, List.mem_flatMap]
    exact ⟨a ++ b, perms_mem h2, ins1_mem a b⟩
theorem sorted_of {α : Type} {lt : α → α → Bool} : ∀ {l : List α}, l.Pairwise (fun x y => lt y x = false) → sorted lt l = true
  | [], _ => rfl
  | [x], _ => rfl
  | x :: y :: r, h => by
    obtain ⟨h1, h2⟩ := List.pairwise_cons.1 h
    have := sorted_of h2
    simp only [sorted, Bool.and_eq_true, Bool.not_eq_true']
    exact ⟨h1 y (by simp), by simpa [sorted] using this⟩
theorem mkH_law {R : Type} {eq : R → R → Bool} (he : ∀ a b, eq a b = true → a = b) (r : R) : ∀ m, CallLaw Try.prog (mkH eq prog libW m) r ∧ MLaw Try.prog (mkH eq prog libW m) r
  | 0 => ⟨⟨fun f vs kk h => by simp [mkH] at h, fun l h => by simp [mkH] at h, fun f t n h => by simp [mkH] at h, fun f t l c kk h => by simp [mkH] at h, fun f h => by simp [mkH] at h, fun f t l c kk h => by simp [mkH] at h⟩,
      ⟨fun Y g vs d mem kk h => by simp [mkH] at h, fun Y g vs d mem kk h => by simp [mkH] at h, fun Y g vs d mem kk h => by simp [mkH] at h⟩⟩
  | m + 1 => by
    obtain ⟨h1, h2⟩ := mkH_law he r m
    have key : ∀ f t l c (kk : List (T t) → Option R), (mkH eq prog libW (m + 1)).S f t l c kk = some r → ∃ (h : t = windT), f = 103 ∧ c = 104 ∧ (castL h l).all windOk = true ∧ l.length ≤ 1000 ∧ joinR eq (((perms (castL h l)).filter (sorted windLt)).map fun l => kk (castL h.symm l)) = some r := by
      intro f t l c kk hk
      simp only [mkH, cond_eq_ite, Bool.and_eq_true, Nat.beq_eq] at hk
      split at hk
      · rename_i hfc
        split at hk
        · rename_i ht
          split at hk
          · rename_i hh
            exact ⟨ht, hfc.1, hfc.2, hh.1, by simpa using hh.2, hk⟩
          · simp at hk
        · simp at hk
      · simp at hk
    refine ⟨⟨fun f vs kk hk => ?_, fun l hk x hx => joinR_law he hk x hx, fun f t n hk => ?_, fun f t l c kk hk hne => ?_, fun f hk => ?_, fun f t l c kk hk => ?_⟩, ⟨fun Y g vs d mem kk hk => ?_, fun Y g vs d mem kk hk => ?_, fun Y g vs d mem kk hk => ?_⟩⟩
    · simp only [mkH, cond_eq_ite, Nat.beq_eq] at hk
      split at hk
      · rename_i hf
        have : f = 50 := hf
        subst this
        split at hk
        · rename_i t l b e
          simp only [cond_eq_ite, Bool.and_eq_true, decide_eq_true_eq, Nat.ble_eq] at hk
          split at hk
          · rename_i hh
            obtain ⟨ht, hl⟩ := hh
            subst ht
            exact ⟨(clone_ok mixed_ok Try.func50 f50_ok l b e (by rw [Nat.ble_eq]; omega)).mono fun v _ hv => by rw [hv]; exact hk, _, rfl, hk⟩
          · simp at hk
        · simp at hk
      · split at hk
        · rename_i F hF
          obtain ⟨fn, hfn, hok⟩ := prog_fn hF
          exact func_sound h1 h2 mixed_ok hfn hok hk
        · simp at hk
    · simp only [mkH, Bool.and_eq_true, Nat.beq_eq, decide_eq_true_eq] at hk
      obtain ⟨⟨hf, ht⟩, hn⟩ := hk
      have e1 : f = 112 := hf
      have e2 : t = vecTy := ht
      subst e1 e2
      exact grow_ok n (by simpa using hn)
    · obtain ⟨ht, rfl, rfl, h3, h4, h5⟩ := key f t l c kk hk
      subst ht
      refine (fun (x : SortOk Try.prog 103 windT l 104 _) => ⟨x.enters, fun w c blk cap cs rest e n h6 h7 => (x.calls w c blk cap cs rest e n h6 h7).mono fun e w' ⟨q1, q2, q3, q4, q5, q6, l', cs', q7, q8, q9, q10⟩ => ⟨q1, q2, q3, q4, q5, q6, l', cs', q7, q8, q9, ?_⟩⟩) (sort_ok l hne h3 h4)
      exact joinR_law he h5 _ (List.mem_map.2 ⟨l', List.mem_filter.2 ⟨perms_mem q10.1, sorted_of q10.2⟩, rfl⟩)
    · simp only [mkH, Nat.beq_eq] at hk
      have e1 : f = 103 := hk
      subst e1
      exact sort0_ok
    · obtain ⟨ht, rfl, rfl, h3, h4, h5⟩ := key f t l c kk hk
      cases hp : ((perms (castL ht l)).filter (sorted windLt)) with
      | nil => rw [hp] at h5; simp [joinR] at h5
      | cons z zs =>
        have := joinR_law he h5 _ (List.mem_map.2 ⟨z, by rw [hp]; simp, rfl⟩)
        exact ⟨_, this⟩
    · simp only [mkH] at hk
      split at hk
      · rename_i F hF
        obtain ⟨fn, hfn, hok⟩ := prog_fn hF
        exact (funcM_sound h1 h2 mixed_ok hfn hok hk).1
      · simp at hk
    · simp only [mkH] at hk
      split at hk
      · rename_i F hF
        obtain ⟨fn, hfn, hok⟩ := prog_fn hF
        exact (funcM_sound h1 h2 mixed_ok hfn hok hk).2.1
      · simp at hk
    · simp only [mkH] at hk
      split at hk
      · rename_i F hF
        obtain ⟨fn, hfn, hok⟩ := prog_fn hF
        exact (funcM_sound h1 h2 mixed_ok hfn hok hk).2.2
      · simp at hk
end Go.Ge
