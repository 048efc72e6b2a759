/- drvq: what a queue's state always is (plain). -/
import Derived.Test.YthfcneahnldgnaaGreatHeld
namespace Go.Proofs.YthfcneahnldgnaaGreat
open Go Vk
set_option linter.unusedSimpArgs false
set_option linter.unusedVariables false
theorem write_length (l : List UInt8) (a : Int) (s : List UInt8) : (M.write l a s).1.length = l.length := by
  unfold M.write
  split
  · rename_i h
    simp only [M.mayAt, decide_eq_true_eq] at h
    exact wr_length _ _ _ (by omega)
  · rfl
@[simp] theorem writeM_length (l : List UInt8) (a : Int) (s : List UInt8) : (M.writeM l a s).length = l.length := write_length l a s
@[simp] theorem storeM_length (l : List UInt8) (a n v : Int) : (M.storeM l a n v).length = l.length := by
  unfold M.storeM M.store
  split
  · split
    · exact write_length _ _ _
    · rfl
  · rfl
theorem postStep_length (ring size id : Int) (cnt i : Nat) (p : M.Part) (st : M.PSt) : (M.postStep ring size id cnt i p st).mem.length = st.mem.length := by
  by_cases h : i = 0
  · rw [postStep_zero h]; simp
  · rw [postStep_pos h]; simp
theorem postStep_s (ring size id : Int) (cnt i : Nat) (p : M.Part) (st : M.PSt) : (M.postStep ring size id cnt i p st).s = (M.spotNext st.s 1 size).1 := by
  by_cases h : i = 0
  · rw [postStep_zero h]
  · rw [postStep_pos h]
theorem postGo_length (ring size id : Int) (cnt : Nat) : ∀ (ps : List M.Part) (i : Nat) (st : M.PSt), (M.postGo ring size id cnt i ps st).mem.length = st.mem.length
  | [], _, _ => rfl
  | p :: r, i, st => by simp only [M.postGo]; rw [postGo_length ring size id cnt r, postStep_length]
theorem postGo_in (ring size id : Int) (cnt : Nat) (h1 : 1 ≤ size ∧ size ≤ 32768) : ∀ (ps : List M.Part) (i : Nat) (st : M.PSt), st.s.In size → (M.postGo ring size id cnt i ps st).s.In size
  | [], _, _, h => h
  | p :: r, i, st, h => by
    simp only [M.postGo]
    refine postGo_in ring size id cnt h1 r (i + 1) _ ?_
    rw [postStep_s]
    exact (spotNext_in h h1 (by omega)).1
@[simp] theorem postMem_length (l : List UInt8) (q : M.DQ) (ps : List M.Part) : (M.postMem l q ps).length = l.length := by
  unfold M.postMem
  rw [storeM_length]
  unfold M.postAll
  rw [postGo_length]
@[simp] theorem newMem_length (l : List UInt8) (y : M.Lay) : (M.newMem l y).length = l.length := by simp [M.newMem]

namespace M
def sumS : List (Int × Int) → Int
  | [] => 0
  | p :: r => p.2 + sumS r
structure DQ.Inv (q : DQ) : Prop where
  ok : q.Ok
  sum : sumS q.held + q.free = q.l.size
  ids : ∀ p ∈ q.held, 0 ≤ p.1 ∧ p.1 < q.l.size
  nodup : (q.held.map (·.1)).Nodup
end M
theorem sumS_append (a b : List (Int × Int)) : M.sumS (a ++ b) = M.sumS a + M.sumS b := by
  induction a with
  | nil => simp [M.sumS]
  | cons p a ih => simp only [List.cons_append, M.sumS, ih]; omega
theorem sumS_le (l : List (Int × Int)) (h : ∀ p ∈ l, 1 ≤ p.2 ∧ p.2 ≤ 64) : (l.length : Int) ≤ M.sumS l := by
  induction l with
  | nil => simp [M.sumS]
  | cons p l ih =>
    have := ih fun p hp => h p (by simp [hp])
    have := h p (by simp)
    simp only [M.sumS, List.length_cons]; omega
theorem sumS_filter (l : List (Int × Int)) (id n : Int) (hn : (l.map (·.1)).Nodup) (hm : (id, n) ∈ l) : M.sumS (l.filter fun p => p.1 ≠ id) = M.sumS l - n := by
  induction l with
  | nil => simp at hm
  | cons p l ih =>
    simp only [List.map_cons, List.nodup_cons] at hn
    rcases List.mem_cons.1 hm with rfl | hm
    · simp only [ne_eq, not_true, decide_false, Bool.false_eq_true, not_false_eq_true, List.filter_cons_of_neg, M.sumS]
      rw [List.filter_eq_self.2]
      · omega
      · intro x hx
        simp only [decide_not, Bool.not_eq_true', decide_eq_false_iff_not]
        intro he
        exact hn.1 (List.mem_map.2 ⟨x, hx, he⟩)
    · have hne : p.1 ≠ id := fun he => hn.1 (List.mem_map.2 ⟨(id, n), hm, he.symm⟩)
      rw [List.filter_cons_of_pos (by simpa using hne)]
      simp only [M.sumS, ih hn.2 hm]; omega
theorem newQ_inv {N : Nat} {y : M.Lay} (hN : N ≤ 1048576) (h : M.layCheck N y = 0) : (M.newQ y).Inv := by
  have hy := layCheck_ok h
  refine ⟨⟨⟨?_, ?_⟩, ⟨?_, ?_⟩, ⟨?_, ?_⟩, ⟨?_, ?_⟩, ⟨?_, ?_⟩, ⟨?_, ?_⟩, ⟨?_, ?_⟩, ⟨?_, ?_⟩, ⟨?_, ?_⟩, ?_, ?_⟩, ?_, ?_, ?_⟩ <;> simp [M.newQ, M.sumS] <;> omega
theorem leastId_lt {q : M.DQ} (h : q.Inv) (hf : 1 ≤ q.free) : (M.leastId q.held : Int) < q.l.size := by
  have h1 := pigeon (leastId_le q.held).1
  have h2 := sumS_le q.held h.ok.pos
  have h3 := h.sum
  omega
theorem mayPost_ok {N : Nat} {free : Int} {ps : List M.Part} (h : M.mayPost N free ps = 0) : 1 ≤ ps.length ∧ ps.length ≤ 64 ∧ M.partsOk N false ps = true ∧ (ps.length : Int) ≤ free := by
  unfold M.mayPost at h
  split at h
  · omega
  · split at h
    · omega
    · rename_i hp
      split at h
      · omega
      · exact ⟨by omega, by omega, by simpa using hp, by omega⟩
theorem postQ_inv {N : Nat} {l : List UInt8} {q : M.DQ} {ps : List M.Part} (h : q.Inv) (hp : M.mayPost N q.free ps = 0) : (M.postQ l q ps).Inv := by
  obtain ⟨h1, h2, h3, h4⟩ := mayPost_ok hp
  have hlt := leastId_lt h (by omega)
  have hle := leastId_le q.held
  obtain ⟨⟨k1, k2, k3, k4, k5, k6, k7, k8, k9, k10, k11⟩, hs, hids, hnd⟩ := h
  have hsum := sumS_le q.held k11
  have hin : (M.postAll l q ps).s.In q.l.size := postGo_in _ _ _ _ k1 _ _ _ k5
  refine ⟨⟨k1, k2, k3, k4, hin, k6, k7, ?_, ?_, ?_, ?_⟩, ?_, ?_, ?_⟩
  · simp only [M.postQ]; omega
  · simp only [M.postQ]; omega
  · simp only [M.postQ, List.length_append, List.length_singleton]; omega
  · simp only [M.postQ, List.mem_append, List.mem_singleton]
    rintro p (hp | rfl)
    · exact k11 p hp
    · dsimp only; omega
  · simp only [M.postQ, sumS_append, M.sumS]; omega
  · simp only [M.postQ, List.mem_append, List.mem_singleton]
    rintro p (hp | rfl)
    · exact hids p hp
    · dsimp only; omega
  · simp only [M.postQ, List.map_append, List.map_cons, List.map_nil]
    rw [List.nodup_append]
    refine ⟨hnd, by simp, ?_⟩
    intro a ha b hb
    simp only [List.mem_singleton] at hb
    subst hb
    obtain ⟨p, hp, rfl⟩ := List.mem_map.1 ha
    have := hle.2
    simp only [M.hasId, List.any_eq_false, decide_eq_true_eq] at this
    exact this p hp
theorem reapQ_inv {q : M.DQ} {id n : Int} (h : q.Inv) (hm : (id, n) ∈ q.held) : (M.reapQ q id n).Inv := by
  obtain ⟨⟨k1, k2, k3, k4, k5, k6, k7, k8, k9, k10, k11⟩, hs, hids, hnd⟩ := h
  have hf := sumS_filter q.held id n hnd hm
  have hn := k11 _ hm
  have hrest := sumS_le (q.held.filter fun p => p.1 ≠ id) fun p hp => k11 p (List.mem_filter.1 hp).1
  dsimp only at hn
  refine ⟨⟨k1, k2, k3, k4, k5, (spotNext_in k6 k1 (by omega)).1, k7, k8, ?_, ?_, ?_⟩, ?_, ?_, ?_⟩
  · simp only [M.reapQ]; omega
  · exact Nat.le_trans (List.length_filter_le _ _) k10
  · exact fun p hp => k11 p (List.mem_filter.1 hp).1
  · simp only [M.reapQ]; omega
  · exact fun p hp => hids p (List.mem_filter.1 hp).1
  · exact List.Sublist.nodup (List.Sublist.map _ List.filter_sublist) hnd
theorem Inv_i64 {q : M.DQ} (h : q.Inv) : ∀ p ∈ q.held, i64R p.1 := fun p hp => by
  have := h.ids p hp
  have := h.ok.size
  unfold i64R; omega
end Go.Proofs.YthfcneahnldgnaaGreat
