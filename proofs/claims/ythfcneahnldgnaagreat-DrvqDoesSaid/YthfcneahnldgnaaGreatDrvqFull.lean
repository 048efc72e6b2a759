/- DrvqFull: as long as there are places parts are posted, with the least ids; then no more. -/
import Derived.Test.YthfcneahnldgnaaGreatFixed15
namespace Go.Proofs.YthfcneahnldgnaaGreat
open Go Vk
set_option linter.unusedSimpArgs false
set_option linter.unusedVariables false
theorem band_le (x m : Int) (h0 : 0 ≤ m) (hm : m < 9223372036854775808) : 0 ≤ band .i64 x m ∧ band .i64 x m ≤ m := by
  have h1 : (BitVec.ofInt IntKind.i64.bits x &&& BitVec.ofInt IntKind.i64.bits m).toNat ≤ m.toNat := by
    rw [BitVec.toNat_and]
    refine Nat.le_trans Nat.and_le_right ?_
    show (BitVec.ofInt 64 m).toNat ≤ m.toNat
    rw [BitVec.toNat_ofInt]
    omega
  unfold band
  rw [w64 (by omega)]
  omega
namespace M
def mkParts (k : Nat) : List Part := (List.range k).map fun t : Nat => ⟨600 + (t : Int), 1, false⟩
end M
theorem mkParts_length (k : Nat) : (M.mkParts k).length = k := by simp [M.mkParts]
theorem mkParts_succ (k : Nat) : M.mkParts (k + 1) = M.mkParts k ++ [⟨600 + k, 1, false⟩] := by simp [M.mkParts, List.range_succ]
theorem partsV_append (a b : List M.Part) : partsV (a ++ b) = partsV a ++ partsV b := by simp [partsV]
theorem partsOk_plain {N : Nat} : ∀ (ps : List M.Part), (∀ p ∈ ps, 1 ≤ p.n ∧ 0 ≤ p.at_ ∧ p.at_ + p.n ≤ N ∧ p.write = false) → M.partsOk N false ps = true
  | [], _ => rfl
  | p :: r, h => by
    have hp := h p (by simp)
    have ih := partsOk_plain r fun x hx => h x (by simp [hx])
    simp only [M.partsOk, M.mayAt, hp.2.2.2, ih, Bool.and_true, Bool.not_false, Bool.or_true]
    simp only [Bool.and_eq_true, decide_eq_true_eq]
    omega
theorem mkParts_ok (k : Nat) (hk : k ≤ 4) : ∀ p ∈ M.mkParts k, 1 ≤ p.n ∧ 0 ≤ p.at_ ∧ p.at_ + p.n ≤ 1024 ∧ p.write = false := by
  intro p hp
  simp only [M.mkParts, List.mem_map, List.mem_range] at hp
  obtain ⟨t, ht, rfl⟩ := hp
  dsimp only
  refine ⟨by omega, by omega, by omega, rfl⟩
theorem mkParts_i64 (k : Nat) (hk : k ≤ 4) : ∀ p ∈ M.mkParts k, i64R p.at_ ∧ i64R p.n := by
  intro p hp
  have := mkParts_ok k hk p hp
  unfold i64R; omega
theorem postE_mk {l : List UInt8} {q : M.DQ} (hl : l.length = 1024) (k : Nat) (h1 : 1 ≤ k) (h2 : k ≤ 4) : M.postE l q (M.mkParts k) = if (k : Int) ≤ q.free then 0 else 151 := by
  unfold M.postE M.mayPost
  rw [mkParts_length, if_neg (by omega), hl, if_neg (by rw [partsOk_plain _ (mkParts_ok k h2)]; simp)]
  by_cases h : (k : Int) ≤ q.free
  · rw [if_neg (by omega), if_pos h]
  · rw [if_pos (by omega), if_neg h]
def ranges (n : Nat) : List Int := (List.range n).map fun i : Nat => (i : Int)
theorem leastId_range {held : List (Int × Int)} {n : Nat} (h : held.map (·.1) = ranges n) : M.leastId held = n := by
  have hm : ∀ x : Int, M.hasId held x = true ↔ x ∈ ranges n := by
    intro x
    rw [← h]
    simp [M.hasId, List.any_eq_true]
  refine leastId_eq ?_ fun j hj => (hm _).2 ?_
  · cases hb : M.hasId held n with
    | false => rfl
    | true =>
      have := (hm _).1 hb
      simp only [ranges, List.mem_map, List.mem_range] at this
      obtain ⟨j, hj, he⟩ := this
      omega
  · simp only [ranges, List.mem_map, List.mem_range]
    exact ⟨j, hj, rfl⟩
theorem laid_1024 (n : Int) (h : 1 ≤ n ∧ n ≤ 8) : M.layCheck (M.laid0 1024).length ⟨0, n, 512, 516⟩ = 0 := by
  rw [laid0_length]
  have : M.laidLen 1024 = 1024 := by decide
  rw [this]
  unfold M.layCheck M.mayAt
  rw [if_pos]
  simp only [decide_eq_true_eq]
  refine ⟨h.1, by omega, by decide, by decide, by decide, by omega, by omega, by omega⟩
theorem laid0_1024 : (M.laid0 1024).length = 1024 := by rw [laid0_length]; decide
end Go.Proofs.YthfcneahnldgnaaGreat
