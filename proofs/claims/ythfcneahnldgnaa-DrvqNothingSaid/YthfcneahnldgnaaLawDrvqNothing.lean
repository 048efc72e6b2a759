/- The statement DrvqNothing holds: for every ring's size and every list of numbers the Go function returns true, and its arguments read as before. No condition. -/
import Derived.Test.YthfcneahnldgnaaDrvqNothing
import Derived.Test.YthfcneahnldgnaaVkShp
import Derived.Test.YthfcneahnldgnaaRows
import Derived.WalkKit
import Derived.ProofKit
import Derived.OpenShut
import Derived.ShutString
import Derived.ChangeOld
import Derived.Below
namespace Go.Proofs.Ythfcneahnldgnaa
open Go Vk Go.ChangeShapes Go.WideShapes Go.ChangeAt Go.RowKit
open Go.ChangeMaps (open_string shut_string)
set_option linter.unusedVariables false
namespace DrvqNothingLaw
theorem own : ownKnob Try.prog.godebug = none := by kernel_rfl
theorem laidOut : laidOutB Try.prog = true := by kernel_rfl
theorem intsV_flat (l : List Int) : l.flatMap (fun n : Int => [Value.int .i64 n]) = intsV l := by
  unfold intsV
  induction l with
  | nil => rfl
  | cons x l ih => simp only [List.flatMap_cons, List.map_cons, ih]; rfl
theorem walk (size : Int) (s : Sl) (l : List Int) (hx : s.n ≤ 9223372036854775807) (W : World) (hrd : Rd W s 1 (intsV l)) :
    Calls Try.prog 5 #[.int .i64 size, .slice s.a s.n s.c] W fun e W' => e = .returned (.bool true) ∧ Below W.heap.size W W' :=
  (DrvqNothing_con size s l hx W [] W [] (fun w' hk => hrd.keep hk) (St.begin W [])).mono fun e W' he => ⟨he.1, below_of_keep he.2.kept⟩
set_option maxRecDepth 100000 in
theorem lifted (os : Os) (started : os.Started) (H : Type) (enc : TypeId × Value → H) :
    ReturnsInHanded {} Try.checked os 5 .any (Rows.drvqNothingSpec.pre6 enc Try.prog Try.f5 Rows.drvqNothingRow.domain false) (Rows.drvqNothingSpec.post enc Try.prog Try.f5 false true false false) := by
  refine returnsInHanded_of_change (C := Try.checked) own started (by kernel_rfl) Try.func5
    (ChangeSpec.witness6 (enc := enc) (C := Try.checked) false ⟨#[], #[.int .i64 0, .slice none 0 0], []⟩ 8 (by kernel_rfl) (by kernel_rfl) (by kernel_rfl) (by kernel_rfl)) ?_
  intro W base args ds gs before hval0 hW hcnd _
  have hval : ∀ (j : Nat) t v, Try.f5.params[j]? = some t → args[j]? = some v → Value.okWide Try.prog W .any base t v := hval0
  have hW' := hW
  obtain ⟨p, q, hA0, hV, rfl, hfz, hnd⟩ := hW
  have hA : DataW.TrodAll enc Try.prog W 0 (fun _ => true) true Try.f5.params.toList args.toList ds p := hA0
  rw [Try.params5] at hA hval
  obtain ⟨v0, vs0, d0, ds0, p0, q0, hargs, rfl, rfl, h0, r0⟩ := trodAll_cons hA
  obtain ⟨v1, vs1, d1, ds1, p1, q1, rfl, rfl, rfl, h1, r1⟩ := trodAll_cons r0
  obtain ⟨rfl, rfl, rfl⟩ := trodAll_nil r1
  obtain rfl : args = #[v0, v1] := by cases args; simp_all
  obtain ⟨rfl, rfl⟩ := trodVars_none hV
  have k0 := h0
  have k1 := h1
  have lt0 : ∀ x ∈ p0, x.block < W.heap.size := by obtain ⟨m, hm⟩ := k0; exact DataW.trod_lt m _ _ _ hm
  have lt1 : ∀ x ∈ p1, x.block < W.heap.size := by obtain ⟨m, hm⟩ := k1; exact DataW.trod_lt m _ _ _ hm
  obtain ⟨a0, rfl, rfl, rfl, w0⟩ := open_int Try.underlying3 (hval 0 3 v0 rfl rfl) h0
  obtain ⟨a1, len1, cap1, rfl⟩ := okWide_slice Try.underlying39 (hval 1 39 v1 rfl rfl)
  obtain ⟨fuel1, g1⟩ := h1
  obtain ⟨s, l, hs, hl, hc, hm, hrd, _⟩ := Shp.slice (shp_of_trod _ _ _ _ g1) Try.underlying39 (fun n : Int => [Value.int .i64 n]) (fun _ => True) 1 (by kernel_rfl) ⟨0⟩ (fun d es h => by obtain ⟨n, h, _⟩ := h.int undInt; exact ⟨n, h, trivial⟩)
  simp [Value.cells] at hs
  obtain ⟨rfl, rfl, rfl⟩ := hs
  have hrd' : Rd W s 1 (intsV l) := by rw [← intsV_flat]; exact hrd
  clear hA0 hval0
  refine (walk a0 s l (by unfold maxLen at hm; omega) W hrd').mono fun e W' ⟨he, bel⟩ => ?_
  subst he
  exact ⟨_, rfl, _, _, _, [], _, [], hW', trodAll_mk1 (shut_bool Try.underlying4 _), (trodAll_cons_mk (Below.trod laidOut (by kernel_rfl) (of_decide_eq_true (by kernel_rfl)) k0 bel lt0) (trodAll_cons_mk (Below.trod laidOut (by kernel_rfl) (of_decide_eq_true (by kernel_rfl)) k1 bel lt1) trodAll_mk0)), rfl, bel.frame _, fun h => by cases h⟩
theorem over : Rows.drvqNothingRow.holds Try.pinned (OpenSpec.ofChange Rows.drvqNothingSpec) :=
  OpenClaim.holds_of_wide 5 Try.f5 rfl rfl rfl rfl rfl rfl rfl ⟨rfl, rfl, rfl, rfl, rfl⟩ rfl rfl rfl rfl rfl (by kernel_rfl) Try.func5 (by kernel_rfl)
    (of_decide_eq_true (by kernel_rfl)) (by unfold Func.isWrapper; rw [if_neg (of_decide_eq_false (by kernel_rfl))]; exact ⟨rfl, rfl⟩)
    (fun os started H enc _ => lifted os started H enc)
end DrvqNothingLaw
theorem drvqNothing_proved : Rows.DrvqNothingSaid := DrvqNothingLaw.over
end Go.Proofs.Ythfcneahnldgnaa
