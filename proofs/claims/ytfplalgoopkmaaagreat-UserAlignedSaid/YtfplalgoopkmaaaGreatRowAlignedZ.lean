/- For every input allotmentlaw19.UserAligned returns true, and its arguments read as they did. Conditions: none. -/
import Derived.Test.YtfplalgoopkmaaaGreatRows
import Derived.Test.YtfplalgoopkmaaaGreatPart45
import Derived.Test.YtfplalgoopkmaaaGreatPart44
import Derived.WalkKit
import Derived.ProofKit
import Derived.OpenShut
namespace Go.Proofs.YtfplalgoopkmaaaGreat
open Go.ChangeShapes Go.WideShapes Go.ChangeAt Go.RowKit
set_option linter.unusedVariables false

theorem u32_of {a : Int} (w : (Lit.int .u32 a).wf = true) : ∃ x : Nat, a = x ∧ x < 4294967296 := by
  have h : (decide (IntKind.u32.min ≤ a) && decide (a ≤ IntKind.u32.max)) = true := w
  simp only [Bool.and_eq_true, decide_eq_true_eq] at h
  have h1 : (0 : Int) ≤ a := h.1
  have h2 : a ≤ 4294967295 := h.2
  exact ⟨a.toNat, by omega, by omega⟩

theorem aligned_walk (a0 : Int) (a1 : Int) (w0 : (Lit.int .u32 a0).wf = true) (w1 : (Lit.int .u64 a1).wf = true) (w : World) :
    Calls Tryz.prog 4 #[.int .u32 a0, .int .u64 a1] w fun e w' => e = .returned (.bool true) ∧ Only Nobody w w' := by
  obtain ⟨x, rfl, hx⟩ := u32_of w0
  obtain ⟨y, rfl, hy⟩ := u64_of w1
  exact law_aligned x y hx hy w

set_option maxRecDepth 100000 in
theorem aligned_lifted (os : Os) (started : os.Started) (H : Type) (enc : TypeId × Value → H) :
    ReturnsInHanded {} Tryz.checked os 4 .any (Rows.userAlignedSpec.pre6 enc Tryz.prog Tryz.f4 Rows.userAlignedRow.domain false) (Rows.userAlignedSpec.post enc Tryz.prog Tryz.f4 false true false false) := by
  refine returnsInHanded_of_change (C := Tryz.checked) own19 started (by kernel_rfl) Tryz.func4
    (ChangeSpec.witness6 (enc := enc) (C := Tryz.checked) false ⟨#[], #[.int .u32 0, .int .u64 0], []⟩ 8 (by kernel_rfl) (by kernel_rfl) (by kernel_rfl) (by kernel_rfl)) ?_
  intro W base args ds gs before hval0 hW hcnd _
  have hval : ∀ (j : Nat) t v, Tryz.f4.params[j]? = some t → args[j]? = some v → Value.okWide Tryz.prog W .any base t v := hval0
  have hW' := hW
  obtain ⟨p, q, hA0, hV, rfl, hfz, hnd⟩ := hW
  have hA : DataW.TrodAll enc Tryz.prog W 0 (fun _ => true) true Tryz.f4.params.toList args.toList ds p := hA0
  rw [Tryz.params4] at hA hval
  obtain ⟨v0, vs0, d0, ds0, p0, q0, hargs, rfl, rfl, h0, r0⟩ := trodAll_cons hA
  obtain ⟨v1, vs1, d1, ds1, p1, q1, rfl, rfl, rfl, h1, r1⟩ := trodAll_cons r0
  obtain ⟨rfl, rfl, rfl⟩ := trodAll_nil r1
  obtain rfl : args = #[v0, v1] := by cases args; simp_all
  obtain ⟨rfl, rfl⟩ := trodVars_none hV
  obtain ⟨a0, rfl, rfl, rfl, w0⟩ := open_int Tryz.underlying35 (hval 0 35 v0 rfl rfl) h0
  obtain ⟨a1, rfl, rfl, rfl, w1⟩ := open_int Tryz.underlying22 (hval 1 22 v1 rfl rfl) h1
  clear hA0 hval0
  simp only [List.append_nil] at hW'
  refine (aligned_walk a0 a1 w0 w1 W).mono fun e W' ⟨he, hg⟩ => ?_
  subst he
  exact ⟨_, rfl, post_plain (pa := []) (pv := []) hW' (fun _ _ _ => (trodAll_cons_mk (shut_bool Tryz.underlying4 _) trodAll_mk0)) (fun sp _ => (trodAll_cons_mk (shut_int Tryz.underlying35 w0) (trodAll_cons_mk (shut_int Tryz.underlying22 w1) trodAll_mk0))) (fun _ _ => rfl) rfl
    (hg.frame _)⟩

theorem aligned_over : Rows.userAlignedRow.holds Tryz.pinned (OpenSpec.ofChange Rows.userAlignedSpec) :=
  OpenClaim.holds_of_wide 4 Tryz.f4 rfl rfl rfl rfl rfl rfl rfl ⟨rfl, rfl, rfl, rfl, rfl⟩ rfl rfl rfl rfl rfl (by kernel_rfl) Tryz.func4 (by kernel_rfl)
    (of_decide_eq_true (by kernel_rfl)) (by unfold Func.isWrapper; first | (rw [if_pos (by decide +kernel)]; kernel_rfl) | (rw [if_neg (by decide +kernel)]; exact ⟨rfl, rfl⟩))
    (fun os started H enc _ => aligned_lifted os started H enc)

/-- The statement. -/
theorem userAligned_proved : Rows.UserAlignedSaid := aligned_over
#print axioms userAligned_proved
end Go.Proofs.YtfplalgoopkmaaaGreat
