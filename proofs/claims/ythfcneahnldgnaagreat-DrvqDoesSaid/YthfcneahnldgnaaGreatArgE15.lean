/- What the argument of DrvqDoes holds. -/
import Derived.Test.YthfcneahnldgnaaGreatDrvqDoes
namespace Go.Proofs.YthfcneahnldgnaaGreat
open Go Vk
set_option linter.unusedSimpArgs false
set_option linter.unusedVariables false
theorem shp_opE {W : World} {d : Nat} {es : List Value} (h : Shp Tryz.prog W d 36 es) : ∃ o : M.Op, es = Op.cells o ∧ (Op.Good W o ∧ i64R o.off ∧ i64R o.fl) := by
  have k0 := Shp.leaves leavesOp15 h
  obtain ⟨kind, c1, rfl, h1, k1⟩ := k0.int undInt
  obtain ⟨at_, c2, rfl, h2, k2⟩ := k1.int undInt
  obtain ⟨id, c3, rfl, h3, k3⟩ := k2.int undInt
  obtain ⟨n, c4, rfl, h4, k4⟩ := k3.int undInt
  obtain ⟨v, c5, rfl, ⟨d2, h5⟩, k5⟩ := k4.cons
  obtain ⟨s, c6, rfl, h6, k6⟩ := k5.str undString
  obtain ⟨off, c7, rfl, h7, k7⟩ := k6.int undInt
  obtain ⟨ew, c8, rfl, k8⟩ := k7.bool undBool
  obtain ⟨fl, c9, rfl, h8, k9⟩ := k8.int undInt
  obtain ⟨wr, c10, rfl, k10⟩ := k9.bool undBool
  have hnil := k10.nil
  subst hnil
  obtain ⟨p, ps, hv, g1, g2, g3, g4, g5⟩ := h5.slice undParts' Part.cells (fun p => i64R p.at_ ∧ i64R p.n) 3 (by kernel_rfl) ⟨⟨0, 0, false⟩⟩ (fun d' es hx => by obtain ⟨p, e, hp⟩ := shp_part hx; exact ⟨p, e, hp⟩)
  injection hv with hv
  subst hv
  refine ⟨⟨kind, at_, id, n, p, ps, bl s, off, ew, fl, wr⟩, op_cells_eq _ _ _ _ _ _ _ _ _ _ _, ⟨g4, ⟨g2, by unfold maxLen at g3; omega⟩, g5, h2, h4, ?_⟩, h7, h8⟩
  dsimp only
  rw [bl_length]
  unfold maxLen at h6
  omega
theorem shp_world15E {W : World} {d : Nat} {cs : List Value} (h : Shp Tryz.prog W d 26 cs) : ∃ (bytes : Int) (y : M.Lay) (sc : Sl) (ops : List M.Op), cs = [.int .i64 bytes, .int .i64 y.ring, .int .i64 y.size, .int .i64 y.drv, .int .i64 y.dev, .slice sc.a sc.n sc.c] ∧
    (i64R y.ring ∧ i64R y.size ∧ i64R y.drv ∧ i64R y.dev) ∧ sc.n ≤ 9223372036854775807 ∧ Rd W sc 10 (opsV ops) ∧ ∀ o ∈ ops, Op.Good W o ∧ i64R o.off ∧ i64R o.fl := by
  have k0 := Shp.leaves leavesWorld15 h
  obtain ⟨bytes, c1, rfl, h1, k1⟩ := k0.int undInt
  obtain ⟨ring, c2, rfl, h2, k2⟩ := k1.int undInt
  obtain ⟨size, c3, rfl, h3, k3⟩ := k2.int undInt
  obtain ⟨drv, c4, rfl, h4, k4⟩ := k3.int undInt
  obtain ⟨dev, c5, rfl, h5, k5⟩ := k4.int undInt
  obtain ⟨v, c6, rfl, ⟨d2, h6⟩, k6⟩ := k5.cons
  have hnil := k6.nil
  subst hnil
  obtain ⟨sc, ops, hv, g1, g2, g3, g4, g5⟩ := h6.slice undOps15 Op.cells (fun o => Op.Good W o ∧ i64R o.off ∧ i64R o.fl) 10 (by kernel_rfl) ⟨⟨0, 0, 0, 0, ⟨none, 0, 0⟩, [], [], 0, false, 0, false⟩⟩ (fun d' es hx => shp_opE hx)
  injection hv with hv
  subst hv
  exact ⟨bytes, ⟨ring, size, drv, dev⟩, sc, ops, rfl, ⟨h2, h3, h4, h5⟩, by unfold maxLen at g3; omega, g4, g5⟩
end Go.Proofs.YthfcneahnldgnaaGreat
