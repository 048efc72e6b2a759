/- The statement DrvqDoes holds: for every memory's size, every queue's lay and every script the Go function returns true, and its arguments read as before. No condition. -/
import Derived.Test.YthfcneahnldgnaaGreatArgE15
import Derived.Test.YthfcneahnldgnaaGreatVkShp
import Derived.Test.YthfcneahnldgnaaGreatRows
import Derived.WalkKit
import Derived.ProofKit
import Derived.OpenShut
import Derived.ShutString
import Derived.ChangeOld
import Derived.Below
namespace Go.Proofs.YthfcneahnldgnaaGreat
open Go Vk Go.ChangeShapes Go.WideShapes Go.ChangeAt Go.RowKit
open Go.ChangeMaps (open_string shut_string)
set_option linter.unusedVariables false
namespace DrvqDoesLaw
theorem own : ownKnob Tryz.prog.godebug = none := by kernel_rfl
theorem laidOut : laidOutB Tryz.prog = true := by kernel_rfl
theorem walk (bytes : Int) (y : M.Lay) (sc : Sl) (ops : List M.Op) (hy : i64R y.ring ∧ i64R y.size ∧ i64R y.drv ∧ i64R y.dev) (hx : sc.n ≤ 9223372036854775807) (W : World) (hrd : Rd W sc 10 (opsV ops)) (hg : ∀ o ∈ ops, Op.Good W o ∧ i64R o.off ∧ i64R o.fl) :
    Calls Tryz.prog 3 #[.agg #[.int .i64 bytes, .int .i64 y.ring, .int .i64 y.size, .int .i64 y.drv, .int .i64 y.dev, .slice sc.a sc.n sc.c]] W fun e W' => e = .returned (.bool true) ∧ Below W.heap.size W W' :=
  (DrvqDoes_con bytes y sc ops hy hx W [] W [] (fun w' hk => ⟨hrd.keep hk, fun o ho => ⟨(hg o ho).1.keep hk, (hg o ho).2⟩⟩) (St.begin W [])).mono fun e W' he => ⟨he.1, below_of_keep he.2.kept⟩
set_option maxRecDepth 100000 in
theorem lifted (os : Os) (started : os.Started) (H : Type) (enc : TypeId × Value → H) :
    ReturnsInHanded {} Tryz.checked os 3 .any (Rows.drvqDoesSpec.pre6 enc Tryz.prog Tryz.f3 Rows.drvqDoesRow.domain false) (Rows.drvqDoesSpec.post enc Tryz.prog Tryz.f3 false true false false) := by
  refine returnsInHanded_of_change (C := Tryz.checked) own started (by kernel_rfl) Tryz.func3
    (ChangeSpec.witness6 (enc := enc) (C := Tryz.checked) false ⟨#[], #[.agg #[.int .i64 0, .int .i64 0, .int .i64 0, .int .i64 0, .int .i64 0, .slice none 0 0]], []⟩ 8 (by kernel_rfl) (by kernel_rfl) (by kernel_rfl) (by kernel_rfl)) ?_
  intro W base args ds gs before hval0 hW hcnd _
  have hval : ∀ (j : Nat) t v, Tryz.f3.params[j]? = some t → args[j]? = some v → Value.okWide Tryz.prog W .any base t v := hval0
  have hW' := hW
  obtain ⟨p, q, hA0, hV, rfl, hfz, hnd⟩ := hW
  have hA : DataW.TrodAll enc Tryz.prog W 0 (fun _ => true) true Tryz.f3.params.toList args.toList ds p := hA0
  rw [Tryz.params3] at hA hval
  obtain ⟨v0, vs0, d0, ds0, p0, q0, hargs, rfl, rfl, h0, r0⟩ := trodAll_cons hA
  obtain ⟨rfl, rfl, rfl⟩ := trodAll_nil r0
  obtain rfl : args = #[v0] := by cases args; simp_all
  obtain ⟨rfl, rfl⟩ := trodVars_none hV
  have k0 := h0
  have lt0 : ∀ x ∈ p0, x.block < W.heap.size := by obtain ⟨m, hm⟩ := k0; exact DataW.trod_lt m _ _ _ hm
  obtain ⟨cs0, rfl, hsz0⟩ := okWide_struct Tryz.underlying26 (hval 0 26 v0 rfl rfl)
  obtain ⟨fuel0, g0⟩ := h0
  obtain ⟨bytes, y, sc, ops, hcs, hy, hx, hrd, hg⟩ := shp_world15E (shp_of_trod _ _ _ _ g0)
  have hcs' : cs0 = #[.int .i64 bytes, .int .i64 y.ring, .int .i64 y.size, .int .i64 y.drv, .int .i64 y.dev, .slice sc.a sc.n sc.c] := by
    apply Array.ext'
    simpa [Value.cells] using hcs
  subst hcs'
  clear hA0 hval0
  refine (walk bytes y sc ops hy hx W hrd hg).mono fun e W' ⟨he, bel⟩ => ?_
  subst he
  exact ⟨_, rfl, _, _, _, [], _, [], hW', trodAll_mk1 (shut_bool Tryz.underlying4 _), (trodAll_cons_mk (Below.trod laidOut (by kernel_rfl) (of_decide_eq_true (by kernel_rfl)) k0 bel lt0) trodAll_mk0), rfl, bel.frame _, fun h => by cases h⟩
theorem over : Rows.drvqDoesRow.holds Tryz.pinned (OpenSpec.ofChange Rows.drvqDoesSpec) :=
  OpenClaim.holds_of_wide 3 Tryz.f3 rfl rfl rfl rfl rfl rfl rfl ⟨rfl, rfl, rfl, rfl, rfl⟩ rfl rfl rfl rfl rfl (by kernel_rfl) Tryz.func3 (by kernel_rfl)
    (of_decide_eq_true (by kernel_rfl)) (by unfold Func.isWrapper; rw [if_neg (of_decide_eq_false (by kernel_rfl))]; exact ⟨rfl, rfl⟩)
    (fun os started H enc _ => lifted os started H enc)
end DrvqDoesLaw
theorem drvqDoes_proved : Rows.DrvqDoesSaid := DrvqDoesLaw.over
end Go.Proofs.YthfcneahnldgnaaGreat
