/- The package's self-test answers true. -/
import Derived.Test.YtneeobmefioenaaGeLaw1
namespace Go.Ge
open Go Go.RowKit Go.Proofs
def eqTs (t : Ty) : List (T t) → List (T t) → Bool
  | [], [] => true
  | x :: r, y :: s => eqT t x y && eqTs t r s
  | _, _ => false
theorem eqTs_eq {t : Ty} (hf : flat t = true) : ∀ {l m : List (T t)}, eqTs t l m = true → l = m
  | [], [], _ => rfl
  | x :: r, y :: s, h => by
    simp only [eqTs, Bool.and_eq_true] at h
    rw [eqT_eq t x y hf h.1, eqTs_eq hf h.2]
  | [], _ :: _, h => by simp [eqTs] at h
  | _ :: _, [], h => by simp [eqTs] at h
def eqVs (f : V → V → Bool) : List V → List V → Bool
  | [], [] => true
  | x :: r, y :: s => f x y && eqVs f r s
  | _, _ => false
def eqV : Nat → V → V → Bool
  | 0, _, _ => false
  | n + 1, a, b => match a, b with
    | .b x, .b y => x == y
    | .i k x, .i k' y => decide (k = k') && x == y
    | .sl t l b e, .sl t' l' b' e' => flat t && (if h : t' = t then eqTs t l (castL h l') else false) && b == b' && e == e'
    | .agg l, .agg m => eqVs (eqV n) l m
    | .tup l, .tup m => eqVs (eqV n) l m
    | _, _ => false
theorem eqVs_eq {f : V → V → Bool} (hf : ∀ a b, f a b = true → a = b) : ∀ {l m : List V}, eqVs f l m = true → l = m
  | [], [], _ => rfl
  | x :: r, y :: s, h => by
    simp only [eqVs, Bool.and_eq_true] at h
    rw [hf x y h.1, eqVs_eq hf h.2]
  | [], _ :: _, h => by simp [eqVs] at h
  | _ :: _, [], h => by simp [eqVs] at h
theorem eqV_eq : ∀ (n : Nat) (a b : V), eqV n a b = true → a = b
  | 0, a, b, h => by simp [eqV] at h
  | n + 1, a, b, h => by
    simp only [eqV] at h
    split at h
    · simp only [beq_iff_eq] at h; rw [h]
    · simp only [Bool.and_eq_true, decide_eq_true_eq, beq_iff_eq] at h; rw [h.1, h.2]
    · simp only [Bool.and_eq_true, beq_iff_eq] at h
      obtain ⟨⟨⟨h1, h2⟩, h3⟩, h4⟩ := h
      split at h2
      · rename_i ht
        subst ht
        rw [eqTs_eq h1 h2, h3, h4]
        rfl
      · simp at h2
    · rw [eqVs_eq (eqV_eq n) h]
    · rw [eqVs_eq (eqV_eq n) h]
    · simp at h
def eqB (a b : Bool) : Bool := a == b
/-- A closed call. -/
theorem closed_ok {H : Hk Bool} (hl : CallLaw Try.prog H true ∧ MLaw Try.prog H true) {f : Nat} {fn : Func} {F : IF} (hf : Try.prog.funcs[f]? = some fn) (hok : funcOk Try.prog fn F = true) {vs : List V} {v : V} (h : evF H F vs (fun u => some (eqV 6 u v)) = some true) :
    CallOk Try.prog f vs (fun u => u = v) ∧ pureV 5 v = true := by
  obtain ⟨h1, u, h2, h3⟩ := func_sound hl.1 hl.2 mixed_ok hf hok h
  simp only [Option.some.injEq] at h3
  have := eqV_eq _ _ _ h3
  subst this
  exact ⟨h1.mono fun w _ hw => eqV_eq 6 w u (by simpa using hw), h2⟩
theorem law40 : CallLaw Try.prog (mkH eqB prog libW 40) true ∧ MLaw Try.prog (mkH eqB prog libW 40) true := mkH_law (eq := eqB) (fun a b h => by simpa [eqB] using h) true 40
abbrev rdT : Ty := .prod (.prod I64 (.prod I64 I64)) (.prod I64 I64)
abbrev vecT : Ty := .prod I64 (.prod I64 I64)
def rds : List (T rdT) := [((1, 0, 0), 3, 5), ((0, 1, 0), 0, 0), ((0, 0, 1), 0, 2)]
def iv (n : Int) : V := .i .i64 n
def tabA : List (Nat × List V × V) :=
  [(32, [.sl rdT rds false true, .agg [iv 1, iv 0, iv 1]], .tup [.agg [iv 3, iv 7], iv 0]),
   (27, [.sl rdT (rds ++ [((1, 0, 0), 6, 6)]) false false], .tup [.agg [iv 5, iv 0, iv 1, iv 1], iv 0]),
   (17, [.sl rdT (rds ++ [((1, 0, 1), 8, 9)]) false false], .tup [.agg [.sl I64 [0, 2, 3] false false, .sl I64 [1, 1, -1] false false], iv 0]),
   (34, [.sl rdT [((1, 1, 0), 0, 0), ((2, 2, 0), 0, 0)] false true], .tup [.sl vecT [(-1, 1, 0), (0, 0, 1)] false false, iv 0]),
   (35, [.sl I64 [1, 3, 0] false true, iv 1], .tup [.agg [iv 13, iv 2], iv 0])]
theorem run32 : evF (mkH eqB prog libW 40) f32 [.sl rdT rds false true, .agg [iv 1, iv 0, iv 1]] (fun u => some (eqV 6 u (.tup [.agg [iv 3, iv 7], iv 0]))) = some true := by decide +kernel
theorem run27 : evF (mkH eqB prog libW 40) f27 [.sl rdT (rds ++ [((1, 0, 0), 6, 6)]) false false] (fun u => some (eqV 6 u (.tup [.agg [iv 5, iv 0, iv 1, iv 1], iv 0]))) = some true := by decide +kernel
theorem run17 : evF (mkH eqB prog libW 40) f17 [.sl rdT (rds ++ [((1, 0, 1), 8, 9)]) false false] (fun u => some (eqV 6 u (.tup [.agg [.sl I64 [0, 2, 3] false false, .sl I64 [1, 1, -1] false false], iv 0]))) = some true := by decide +kernel
theorem run34 : evF (mkH eqB prog libW 40) f34 [.sl rdT [((1, 1, 0), 0, 0), ((2, 2, 0), 0, 0)] false true] (fun u => some (eqV 6 u (.tup [.sl vecT [(-1, 1, 0), (0, 0, 1)] false false, iv 0]))) = some true := by decide +kernel
theorem run35 : evF (mkH eqB prog libW 40) f35 [.sl I64 [1, 3, 0] false true, iv 1] (fun u => some (eqV 6 u (.tup [.agg [iv 13, iv 2], iv 0]))) = some true := by decide +kernel
theorem f32_ok : funcOk Try.prog Try.f32 f32 = true := by decide +kernel
theorem f27_ok : funcOk Try.prog Try.f27 f27 = true := by decide +kernel
theorem f17_ok : funcOk Try.prog Try.f17 f17 = true := by decide +kernel
theorem f34_ok : funcOk Try.prog Try.f34 f34 = true := by decide +kernel
theorem f35_ok : funcOk Try.prog Try.f35 f35 = true := by decide +kernel
theorem f6_ok : funcOk Try.prog Try.f6 f6 = true := by decide +kernel
def look (tab : List (Nat × List V × V)) (f : Nat) (vs : List V) : Option V :=
  match tab with
  | [] => none
  | e :: r => bif Nat.beq f e.1 && eqVs (eqV 6) vs e.2.1 then some e.2.2 else look r f vs
theorem look_mem : ∀ {tab : List (Nat × List V × V)} {f : Nat} {vs : List V} {v : V}, look tab f vs = some v → (f, vs, v) ∈ tab
  | [], f, vs, v, h => by simp [look] at h
  | e :: r, f, vs, v, h => by
    simp only [look, cond_eq_ite, Bool.and_eq_true, Nat.beq_eq] at h
    split at h
    · rename_i hh
      simp only [Option.some.injEq] at h
      obtain ⟨a, b, c⟩ := e
      simp only at hh h
      rw [hh.1, eqVs_eq (eqV_eq 6) hh.2, h]
      simp
    · exact List.mem_cons_of_mem _ (look_mem h)
theorem tabA_ok : ∀ f vs v, (f, vs, v) ∈ tabA → CallOk Try.prog f vs (fun u => u = v) ∧ pureV 5 v = true := by
  intro f vs v h
  simp only [tabA, List.mem_cons, Prod.mk.injEq, List.not_mem_nil, or_false] at h
  rcases h with ⟨rfl, rfl, rfl⟩ | ⟨rfl, rfl, rfl⟩ | ⟨rfl, rfl, rfl⟩ | ⟨rfl, rfl, rfl⟩ | ⟨rfl, rfl, rfl⟩
  · exact closed_ok law40 Try.func32 f32_ok run32
  · exact closed_ok law40 Try.func27 f27_ok run27
  · exact closed_ok law40 Try.func17 f17_ok run17
  · exact closed_ok law40 Try.func34 f34_ok run34
  · exact closed_ok law40 Try.func35 f35_ok run35
def HA : Hk Bool := { mkH eqB prog libW 40 with C := fun f vs k => match look tabA f vs with | some v => k v | none => (mkH eqB prog libW 40).C f vs k }
theorem ha_law : CallLaw Try.prog HA true ∧ MLaw Try.prog HA true := by
  obtain ⟨h1, h2⟩ := law40
  refine ⟨⟨fun f vs kk hk => ?_, h1.join, h1.grow, h1.sort, h1.sort0, h1.sortEx⟩, h2.enters, h2.calls, h2.ex⟩
  simp only [HA] at hk
  split at hk
  · rename_i v hv
    obtain ⟨h3, h4⟩ := tabA_ok _ _ _ (look_mem hv)
    exact ⟨h3.mono fun u _ hu => by rw [hu]; exact hk, v, h4, hk⟩
  · exact h1.call f vs kk hk
theorem awake_run : evF HA f6 [] (fun u => some (eqV 6 u (.b true))) = some true := by decide +kernel
theorem awake_ok : CallOk Try.prog 6 [] (fun u => u = .b true) ∧ pureV 5 (.b true) = true := closed_ok ha_law Try.func6 f6_ok awake_run
end Go.Ge
