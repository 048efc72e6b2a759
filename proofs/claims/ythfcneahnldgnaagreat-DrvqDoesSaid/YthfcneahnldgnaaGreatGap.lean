/- Places of a ring: how many steps from one to another (plain). -/
import Derived.Test.YthfcneahnldgnaaGreatDrvqPost
namespace Go.Proofs.YthfcneahnldgnaaGreat
open Go Vk
set_option linter.unusedSimpArgs false
set_option linter.unusedVariables false
namespace M
def spotOne (s : Spot) (size : Int) : Spot := if s.at_ = size - 1 then ⟨0, !s.wrap⟩ else ⟨s.at_ + 1, s.wrap⟩
def gapN (a b : Spot) (size : Int) : Int :=
  if b.at_ - a.at_ + (if a.wrap = b.wrap then 0 else size) < 0 then b.at_ - a.at_ + (if a.wrap = b.wrap then 0 else size) + 2 * size else b.at_ - a.at_ + (if a.wrap = b.wrap then 0 else size)
def spotGap (a b : Spot) (size : Int) : Int × Int :=
  if spotCheck a size ≠ 0 then (0, spotCheck a size) else if spotCheck b size ≠ 0 then (0, spotCheck b size) else (gapN a b size, 0)
def spotNeed (off : Int) (ew : Bool) (fl : Int) (a b : Spot) (size : Int) : Bool :=
  if (spotGap a b size).2 ≠ 0 ∨ size < (spotGap a b size).1 then false
  else if fl = 0 then decide (a ≠ b)
  else if fl = 2 then decide ((spotGap a ⟨off, ew⟩ size).2 = 0 ∧ (spotGap a ⟨off, ew⟩ size).1 < (spotGap a b size).1) else false
end M
theorem spot_ext {a b : M.Spot} : a = b ↔ a.at_ = b.at_ ∧ a.wrap = b.wrap := by cases a; cases b; simp
theorem spotCheck_in {s : M.Spot} {size : Int} (h1 : 1 ≤ size ∧ size ≤ 32768) : M.spotCheck s size = 0 ↔ s.In size := by
  unfold M.spotCheck M.Spot.In
  rw [if_neg (by omega)]
  split <;> omega
theorem spotCheck_size {s : M.Spot} {size : Int} (h : M.spotCheck s size = 0) : (1 ≤ size ∧ size ≤ 32768) ∧ s.In size := by
  unfold M.spotCheck at h
  unfold M.Spot.In
  split at h
  · omega
  · split at h <;> omega
theorem one_in {s : M.Spot} {size : Int} (h : s.In size) : (M.spotOne s size).In size := by
  unfold M.spotOne M.Spot.In at *
  split <;> dsimp only <;> omega
theorem gapN_zero {a b : M.Spot} {size : Int} (h1 : 1 ≤ size) (ha : a.In size) (hb : b.In size) : M.gapN a b size = 0 ↔ a = b := by
  unfold M.gapN M.Spot.In at *
  rw [spot_ext]
  cases a.wrap <;> cases b.wrap <;> simp <;> split <;> omega
theorem gapN_range {a b : M.Spot} {size : Int} (h1 : 1 ≤ size) (ha : a.In size) (hb : b.In size) : 0 ≤ M.gapN a b size ∧ M.gapN a b size < 2 * size := by
  unfold M.gapN M.Spot.In at *
  cases a.wrap <;> cases b.wrap <;> simp <;> split <;> omega
theorem gapN_one {a b : M.Spot} {size : Int} (h1 : 1 ≤ size) (ha : a.In size) (hb : b.In size) (hne : a ≠ b) : M.gapN (M.spotOne a size) b size = M.gapN a b size - 1 := by
  have hz := mt (gapN_zero h1 ha hb).1 hne
  unfold M.gapN M.Spot.In M.spotOne at *
  cases a with | mk aa aw => cases b with | mk ba bw =>
  cases aw <;> cases bw <;> simp at * <;> split <;> simp <;> (repeat' split) <;> (repeat' split at hz) <;> omega
theorem spotNext_val {s : M.Spot} {size n : Int} (h1 : 1 ≤ size ∧ size ≤ 32768) (hs : s.In size) (hn : 0 ≤ n ∧ n ≤ size) : M.spotNext s n size = if size ≤ s.at_ + n then (⟨s.at_ + n - size, !s.wrap⟩, 0) else (⟨s.at_ + n, s.wrap⟩, 0) := by
  have hc := (spotCheck_in h1).2 hs
  unfold M.spotNext
  rw [if_neg (by simp [hc]), if_neg (by omega)]
theorem spotNext_zero {s : M.Spot} {size : Int} (h1 : 1 ≤ size ∧ size ≤ 32768) (hs : s.In size) : (M.spotNext s 0 size).1 = s := by
  rw [spotNext_val h1 hs (by omega)]
  unfold M.Spot.In at hs
  rw [if_neg (by omega)]
  simp
theorem spotNext_succ {s : M.Spot} {size n : Int} (h1 : 1 ≤ size ∧ size ≤ 32768) (hs : s.In size) (hn : 0 ≤ n ∧ n + 1 ≤ size) : (M.spotNext s (n + 1) size).1 = M.spotOne (M.spotNext s n size).1 size := by
  rw [spotNext_val h1 hs (by omega), spotNext_val h1 hs (by omega)]
  unfold M.Spot.In at hs
  unfold M.spotOne
  by_cases c1 : size ≤ s.at_ + n
  · rw [if_pos (by omega), if_pos c1]
    dsimp only
    rw [if_neg (by omega)]
    rw [spot_ext]; exact ⟨by dsimp only; omega, rfl⟩
  · rw [if_neg c1]
    dsimp only
    by_cases c2 : s.at_ + n = size - 1
    · rw [if_pos c2, if_pos (by omega)]
      rw [spot_ext]; exact ⟨by dsimp only; omega, rfl⟩
    · rw [if_neg c2, if_neg (by omega)]
      rw [spot_ext]; exact ⟨by dsimp only; omega, rfl⟩
theorem spotNext_1 {s : M.Spot} {size : Int} (h1 : 1 ≤ size ∧ size ≤ 32768) (hs : s.In size) : (M.spotNext s 1 size).1 = M.spotOne s size := by
  have := spotNext_succ (n := 0) h1 hs (by omega)
  rw [spotNext_zero h1 hs] at this
  exact this
theorem spotGap_ok {a b : M.Spot} {size : Int} (h1 : 1 ≤ size ∧ size ≤ 32768) (ha : a.In size) (hb : b.In size) : M.spotGap a b size = (M.gapN a b size, 0) := by
  unfold M.spotGap
  rw [if_neg (by simp [(spotCheck_in h1).2 ha]), if_neg (by simp [(spotCheck_in h1).2 hb])]
end Go.Proofs.YthfcneahnldgnaaGreat
