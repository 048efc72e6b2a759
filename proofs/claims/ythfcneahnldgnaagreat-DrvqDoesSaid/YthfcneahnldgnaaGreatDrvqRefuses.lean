/- DrvqRefuses: what is refused changes nothing; what is reaped was held. -/
import Derived.Test.YthfcneahnldgnaaGreatOps15
namespace Go.Proofs.YthfcneahnldgnaaGreat
open Go Vk
set_option linter.unusedSimpArgs false
set_option linter.unusedVariables false
def opsV (l : List M.Op) : List Value := l.flatMap Op.cells
theorem opsV_length (l : List M.Op) : (opsV l).length = l.length * 10 := by
  induction l with
  | nil => rfl
  | cons p l ih => simp only [opsV, List.flatMap_cons, List.length_append, List.length_cons] at *; simp [Op.cells, ih]; omega
theorem opsV_drop (l : List M.Op) (i : Nat) : (opsV l).drop (i * 10) = opsV (l.drop i) := by
  induction l generalizing i with
  | nil => simp [opsV]
  | cons p l ih =>
    cases i with
    | zero => simp
    | succ i => rw [Nat.add_mul, Nat.add_comm, ← List.drop_drop, List.drop_succ_cons, ← ih]; rfl
theorem mayPost_le (N : Nat) (free : Int) (ps : List M.Part) (h : M.mayPost N free (ps.take 70) = 0) : ps.take 70 = ps := by
  have := (mayPost_ok h).2.1
  rw [List.length_take] at this
  exact List.take_of_length_le (by omega)
theorem hasId_keys (m : List (Int × Int)) (id : Int) : M.hasId m id = true ↔ id ∈ M.keysOf m := by
  unfold M.keysOf
  rw [List.mem_mergeSort]
  simp [M.hasId, List.any_eq_true, List.mem_map]
theorem keysOf_length (m : List (Int × Int)) : (M.keysOf m).length = m.length := by unfold M.keysOf; simp
theorem filter_id_length {m : List (Int × Int)} {id n : Int} (hn : (m.map (·.1)).Nodup) (hm : (id, n) ∈ m) : (m.filter fun p => p.1 ≠ id).length = m.length - 1 := by
  induction m with
  | nil => simp at hm
  | cons p l ih =>
    simp only [List.map_cons, List.nodup_cons] at hn
    rcases List.mem_cons.1 hm with rfl | hm
    · simp only [ne_eq, not_true, decide_false, Bool.false_eq_true, not_false_eq_true, List.filter_cons_of_neg, List.length_cons, Nat.add_sub_cancel]
      rw [List.filter_eq_self.2]
      intro x hx
      simp only [decide_not, Bool.not_eq_true', decide_eq_false_iff_not]
      intro he
      exact hn.1 (List.mem_map.2 ⟨x, hx, he⟩)
    · have hne : p.1 ≠ id := fun he => hn.1 (List.mem_map.2 ⟨(id, n), hm, he.symm⟩)
      have hpos : 0 < l.length := List.length_pos_of_mem hm
      rw [List.filter_cons_of_pos (by simpa using hne), List.length_cons, ih hn.2 hm, List.length_cons]
      omega
theorem take_snoc_gen (l : List Int) (k : Nat) (h : k < l.length) : l.take (k + 1) = l.take k ++ [l.getD k 0] := by
  rw [List.take_succ_eq_append_getElem h]; simp [List.getD, h]
theorem postQ_free (l : List UInt8) (q : M.DQ) (ps : List M.Part) : (M.postQ l q ps).free = q.free - ps.length := rfl
theorem postQ_hlen (l : List UInt8) (q : M.DQ) (ps : List M.Part) : (M.postQ l q ps).held.length = q.held.length + 1 := by simp [M.postQ]
end Go.Proofs.YthfcneahnldgnaaGreat
