/- What the argument of the drvq statements holds: a world with its script. -/
import Derived.Test.YthfcneahnldgnaaGreatDrvqRefuses
namespace Go.Proofs.YthfcneahnldgnaaGreat
open Go Vk
set_option linter.unusedSimpArgs false
set_option linter.unusedVariables false
theorem leavesWorld15 : leavesOf Tryz.prog 9 26 = some [3, 3, 3, 3, 3, 24] := by kernel_rfl
theorem leavesOp15 : leavesOf Tryz.prog 9 36 = some [3, 3, 3, 3, 32, 9, 3, 4, 3, 4] := by kernel_rfl
theorem leavesPart : leavesOf Tryz.prog 9 56 = some [3, 3, 4] := by kernel_rfl
theorem undBool : Tryz.prog.underlying 4 = some .bool := by kernel_rfl
theorem undString : Tryz.prog.underlying 9 = some .string := by kernel_rfl
theorem undParts' : Tryz.prog.underlying 32 = some (.slice 56) := by kernel_rfl
theorem undOps15 : Tryz.prog.underlying 24 = some (.slice 36) := by kernel_rfl
theorem shp_part {W : World} {d : Nat} {es : List Value} (h : Shp Tryz.prog W d 56 es) : ∃ p : M.Part, es = Part.cells p ∧ i64R p.at_ ∧ i64R p.n := by
  have k0 := Shp.leaves leavesPart h
  obtain ⟨a, c1, rfl, ha, k1⟩ := k0.int undInt
  obtain ⟨n, c2, rfl, hn, k2⟩ := k1.int undInt
  obtain ⟨b, c3, rfl, k3⟩ := k2.bool undBool
  have hnil := k3.nil
  subst hnil
  exact ⟨⟨a, n, b⟩, rfl, ha, hn⟩
theorem op_cells_eq (kind at_ id n : Int) (p : Sl) (ps : List M.Part) (s : ByteArray) (off : Int) (ew : Bool) (fl : Int) (wr : Bool) : [Value.int .i64 kind, .int .i64 at_, .int .i64 id, .int .i64 n, .slice p.a p.n p.c, .string s, .int .i64 off, .bool ew, .int .i64 fl, .bool wr] = Op.cells ⟨kind, at_, id, n, p, ps, bl s, off, ew, fl, wr⟩ := by
  unfold Op.cells
  rw [mkB_bl]
theorem shp_op {W : World} {d : Nat} {es : List Value} (h : Shp Tryz.prog W d 36 es) : ∃ o : M.Op, es = Op.cells o ∧ Op.Good W o := by
  have k0 := Shp.leaves leavesOp15 h
  obtain ⟨kind, c1, rfl, h1, k1⟩ := k0.int undInt
  obtain ⟨at_, c2, rfl, h2, k2⟩ := k1.int undInt
  obtain ⟨id, c3, rfl, h3, k3⟩ := k2.int undInt
  obtain ⟨n, c4, rfl, h4, k4⟩ := k3.int undInt
  obtain ⟨v, c5, rfl, ⟨d2, h5⟩, k5⟩ := k4.cons
  obtain ⟨s, c6, rfl, h6, k6⟩ := k5.str undString
  obtain ⟨off, c7, rfl, h7, k7⟩ := k6.int undInt
  obtain ⟨ew, c8, rfl, k8⟩ := k7.bool undBool
  obtain ⟨fl, c9, rfl, h8, k9⟩ := k8.int undInt
  obtain ⟨wr, c10, rfl, k10⟩ := k9.bool undBool
  have hnil := k10.nil
  subst hnil
  obtain ⟨p, ps, hv, g1, g2, g3, g4, g5⟩ := h5.slice undParts' Part.cells (fun p => i64R p.at_ ∧ i64R p.n) 3 (by kernel_rfl) ⟨⟨0, 0, false⟩⟩ (fun d' es hx => by obtain ⟨p, e, hp⟩ := shp_part hx; exact ⟨p, e, hp⟩)
  injection hv with hv
  subst hv
  refine ⟨⟨kind, at_, id, n, p, ps, bl s, off, ew, fl, wr⟩, op_cells_eq _ _ _ _ _ _ _ _ _ _ _, ⟨g4, ⟨g2, by unfold maxLen at g3; omega⟩, g5, h2, h4, ?_⟩⟩
  dsimp only
  rw [bl_length]
  unfold maxLen at h6
  omega
theorem shp_world15 {W : World} {d : Nat} {cs : List Value} (h : Shp Tryz.prog W d 26 cs) : ∃ (bytes : Int) (y : M.Lay) (sc : Sl) (ops : List M.Op), cs = [.int .i64 bytes, .int .i64 y.ring, .int .i64 y.size, .int .i64 y.drv, .int .i64 y.dev, .slice sc.a sc.n sc.c] ∧
    (i64R y.ring ∧ i64R y.size ∧ i64R y.drv ∧ i64R y.dev) ∧ sc.n ≤ 9223372036854775807 ∧ Rd W sc 10 (opsV ops) ∧ ∀ o ∈ ops, Op.Good W o := by
  have k0 := Shp.leaves leavesWorld15 h
  obtain ⟨bytes, c1, rfl, h1, k1⟩ := k0.int undInt
  obtain ⟨ring, c2, rfl, h2, k2⟩ := k1.int undInt
  obtain ⟨size, c3, rfl, h3, k3⟩ := k2.int undInt
  obtain ⟨drv, c4, rfl, h4, k4⟩ := k3.int undInt
  obtain ⟨dev, c5, rfl, h5, k5⟩ := k4.int undInt
  obtain ⟨v, c6, rfl, ⟨d2, h6⟩, k6⟩ := k5.cons
  have hnil := k6.nil
  subst hnil
  obtain ⟨sc, ops, hv, g1, g2, g3, g4, g5⟩ := h6.slice undOps15 Op.cells (Op.Good W) 10 (by kernel_rfl) ⟨⟨0, 0, 0, 0, ⟨none, 0, 0⟩, [], [], 0, false, 0, false⟩⟩ (fun d' es hx => shp_op hx)
  injection hv with hv
  subst hv
  exact ⟨bytes, ⟨ring, size, drv, dev⟩, sc, ops, rfl, ⟨h2, h3, h4, h5⟩, by unfold maxLen at g3; omega, g4, g5⟩
theorem Op.Good.keep {W W' : World} {o : M.Op} (h : Op.Good W o) (hk : Keep [] W W') : Op.Good W' o := ⟨h.rd.keep hk, h.cap, h.ps, h.at_, h.n, h.s⟩
end Go.Proofs.YthfcneahnldgnaaGreat
