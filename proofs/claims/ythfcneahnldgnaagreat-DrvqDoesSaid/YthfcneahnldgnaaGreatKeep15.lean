/- The document's queue: what it keeps, told by drvq's (plain). -/
import Derived.Test.YthfcneahnldgnaaGreatRef13
import Derived.Test.YthfcneahnldgnaaGreatDrvqRing
import Derived.Test.YthfcneahnldgnaaGreatFns15
namespace Go.Proofs.YthfcneahnldgnaaGreat
open Go Vk
set_option linter.unusedSimpArgs false
set_option linter.unusedVariables false
namespace M
def sizesOf (held : List (Int × Int)) (n : Nat) : List Int := (List.range n).map fun (i : Nat) => sizeOf held ((i : Nat) : Int)
def kOf (q : DQ) (since : Int) : KQ := ⟨q.l, q.next, q.back, q.told, since, sizesOf q.held q.l.size.toNat⟩
end M
theorem sizesOf_length (held : List (Int × Int)) (n : Nat) : (M.sizesOf held n).length = n := by simp [M.sizesOf]
theorem sizesOf_get (held : List (Int × Int)) {n i : Nat} (h : i < n) : (M.sizesOf held n).getD i 0 = M.sizeOf held (i : Int) := by simp [M.sizesOf, h]
theorem sizeOf_cons (p : Int × Int) (r : List (Int × Int)) (id : Int) : M.sizeOf (p :: r) id = if p.1 = id then p.2 else M.sizeOf r id := by
  unfold M.sizeOf
  by_cases h : p.1 = id
  · rw [List.find?_cons_of_pos (by simpa using h), if_pos h]; rfl
  · rw [List.find?_cons_of_neg (by simpa using h), if_neg h]
theorem sizeOf_no {held : List (Int × Int)} {id : Int} (h : M.hasId held id = false) : M.sizeOf held id = 0 := by
  induction held with
  | nil => rfl
  | cons p r ih =>
    simp only [M.hasId, List.any_cons, Bool.or_eq_false_iff, decide_eq_false_iff_not] at h
    rw [sizeOf_cons, if_neg h.1]
    exact ih (by simpa [M.hasId] using h.2)
theorem sizeOf_pos {held : List (Int × Int)} {id : Int} (hp : ∀ p ∈ held, 1 ≤ p.2 ∧ p.2 ≤ 64) : 0 < M.sizeOf held id ↔ M.hasId held id = true := by
  constructor
  · intro h
    cases hh : M.hasId held id with
    | true => rfl
    | false => rw [sizeOf_no hh] at h; omega
  · intro h
    have := hp _ (mem_sizeOf h)
    dsimp only at this; omega
theorem sizeOf_range {held : List (Int × Int)} {id : Int} (hp : ∀ p ∈ held, 1 ≤ p.2 ∧ p.2 ≤ 64) : 0 ≤ M.sizeOf held id ∧ M.sizeOf held id ≤ 64 := by
  cases hh : M.hasId held id with
  | true => have := hp _ (mem_sizeOf hh); dsimp only at this; omega
  | false => rw [sizeOf_no hh]; omega
def sumN (f : Nat → Int) : Nat → Int
  | 0 => 0
  | n + 1 => sumN f n + f n
theorem sumN_upd (f g : Nat → Int) (k : Nat) (h : ∀ i, i ≠ k → f i = g i) : ∀ n, sumN f n = sumN g n + if k < n then f k - g k else 0
  | 0 => by simp [sumN]
  | n + 1 => by
    simp only [sumN]
    rw [sumN_upd f g k h n]
    by_cases h1 : n = k
    · subst h1; simp; omega
    · rw [h n h1]
      by_cases h2 : k < n
      · rw [if_pos h2, if_pos (by omega)]; omega
      · rw [if_neg h2, if_neg (by omega)]; omega
theorem sumN_zero (n : Nat) : sumN (fun _ => 0) n = 0 := by
  induction n with
  | zero => rfl
  | succ n ih => simp [sumN, ih]
theorem sum_sizes (held : List (Int × Int)) (n : Nat) (hids : ∀ p ∈ held, 0 ≤ p.1 ∧ p.1 < n) (hnd : (held.map (·.1)).Nodup) : sumN (fun i => M.sizeOf held (i : Int)) n = M.sumS held := by
  induction held with
  | nil => exact sumN_zero n
  | cons p r ih =>
    simp only [List.map_cons, List.nodup_cons] at hnd
    have hp := hids p (by simp)
    rw [sumN_upd (fun i => M.sizeOf (p :: r) (i : Int)) (fun i => M.sizeOf r (i : Int)) p.1.toNat (fun i hi => by
      rw [sizeOf_cons, if_neg (by omega)]) n, ih (fun x hx => hids x (by simp [hx])) hnd.2, if_pos (by omega)]
    have e : ((p.1.toNat : Nat) : Int) = p.1 := by omega
    have e0 : M.sizeOf r p.1 = 0 := sizeOf_no (by
      simp only [M.hasId, List.any_eq_false, decide_eq_true_eq]
      exact fun x hx he => hnd.1 (List.mem_map.2 ⟨x, hx, he⟩))
    simp only [M.sumS]
    rw [e, sizeOf_cons, if_pos rfl, e0]; omega
theorem sumN_range (f : Nat → Int) (c : Int) (h : ∀ i, 0 ≤ f i ∧ f i ≤ c) (hc : 0 ≤ c) : ∀ n, 0 ≤ sumN f n ∧ sumN f n ≤ c * n
  | 0 => by simp [sumN]
  | n + 1 => by
    have h1 := sumN_range f c h hc n
    have h2 := h n
    simp only [sumN]
    have e : c * ((n + 1 : Nat) : Int) = c * n + c := by push_cast; rw [Int.mul_add, Int.mul_one]
    omega
/-- Held: the ids, rising. -/
def heldN (held : List (Int × Int)) (n : Nat) : List Int := ((List.range n).filter fun i => decide (0 < M.sizeOf held ((i : Nat) : Int))).map fun i => ((i : Nat) : Int)
theorem heldN_succ (held : List (Int × Int)) (n : Nat) : heldN held (n + 1) = heldN held n ++ if 0 < M.sizeOf held (n : Int) then [(n : Int)] else [] := by
  unfold heldN
  rw [List.range_succ, List.filter_append, List.map_append]
  congr 1
  by_cases h : 0 < M.sizeOf held (n : Int) <;> simp [h]
theorem heldN_len (held : List (Int × Int)) (n : Nat) : (heldN held n).length ≤ n := by
  unfold heldN
  rw [List.length_map]
  exact Nat.le_trans (List.length_filter_le _ _) (by simp)
theorem held_keys {q : M.DQ} (h : q.Inv) : heldN q.held q.l.size.toNat = M.keysOf q.held := by
  have tr : ∀ a b c : Int, decide (a ≤ b) = true → decide (b ≤ c) = true → decide (a ≤ c) = true := by intro a b c h1 h2; simp at *; omega
  have tt : ∀ a b : Int, (decide (a ≤ b) || decide (b ≤ a)) = true := by intro a b; simp; omega
  have hlt : (heldN q.held q.l.size.toNat).Pairwise (· < ·) := by
    unfold heldN
    refine List.pairwise_map.2 (List.Pairwise.imp ?_ (List.Pairwise.filter _ List.pairwise_lt_range))
    intro a b hab; omega
  refine List.Perm.eq_of_pairwise (le := fun x y => decide (x ≤ y)) ?_ ?_ (List.pairwise_mergeSort tr tt _) ?_
  · intro a b _ _ h1 h2; simp at h1 h2; omega
  · exact hlt.imp (by intro a b hab; simp; omega)
  · refine List.Perm.trans ?_ (List.mergeSort_perm _ _).symm
    refine (List.perm_ext_iff_of_nodup (hlt.imp (by intro a b hab; omega)) h.nodup).2 fun x => ?_
    unfold heldN
    simp only [List.mem_map, List.mem_filter, List.mem_range, decide_eq_true_eq]
    constructor
    · rintro ⟨i, ⟨h1, h2⟩, rfl⟩
      exact ⟨_, mem_sizeOf ((sizeOf_pos h.ok.pos).1 h2), rfl⟩
    · rintro ⟨p, hp, rfl⟩
      have := h.ids p hp
      refine ⟨p.1.toNat, ⟨by omega, ?_⟩, by omega⟩
      rw [show ((p.1.toNat : Nat) : Int) = p.1 by omega]
      exact (sizeOf_pos h.ok.pos).2 (hasId_mem (n := p.2) hp)
theorem set_sizes (held held' : List (Int × Int)) (n : Nat) (id : Nat) (v : Int) (h1 : M.sizeOf held' (id : Int) = v) (h2 : ∀ i : Nat, i ≠ id → M.sizeOf held' (i : Int) = M.sizeOf held (i : Int)) : (M.sizesOf held n).set id v = M.sizesOf held' n := by
  unfold M.sizesOf
  rw [map_range_set]
  apply List.map_congr_left
  intro j hj
  by_cases h : j = id
  · subst h; rw [if_pos rfl, h1]
  · rw [if_neg h, h2 j h]
theorem sizeOf_append (held : List (Int × Int)) (p : Int × Int) (id : Int) : M.sizeOf (held ++ [p]) id = if M.hasId held id = true then M.sizeOf held id else if p.1 = id then p.2 else 0 := by
  induction held with
  | nil => rw [List.nil_append, sizeOf_cons]; simp [M.hasId, M.sizeOf]
  | cons x r ih =>
    rw [List.cons_append, sizeOf_cons, sizeOf_cons, ih]
    by_cases h : x.1 = id
    · simp [M.hasId, h]
    · have e : M.hasId (x :: r) id = M.hasId r id := by simp [M.hasId, h]
      rw [if_neg h, e, if_neg h]
theorem sizeOf_filter (held : List (Int × Int)) (id j : Int) : M.sizeOf (held.filter fun p => p.1 ≠ id) j = if j = id then 0 else M.sizeOf held j := by
  induction held with
  | nil => simp [M.sizeOf]
  | cons x r ih =>
    by_cases h : x.1 = id
    · rw [List.filter_cons_of_neg (by simpa using h), ih, sizeOf_cons]
      by_cases hj : j = id
      · simp [hj]
      · rw [if_neg hj, if_neg hj, if_neg (by omega)]
    · rw [List.filter_cons_of_pos (by simpa using h), sizeOf_cons, sizeOf_cons, ih]
      by_cases hj : x.1 = j
      · rw [if_pos hj, if_neg (by omega), if_pos hj]
      · rw [if_neg hj, if_neg hj]
theorem least_no (held : List (Int × Int)) : M.sizeOf held (M.leastId held : Nat) = 0 := sizeOf_no (leastId_le held).2
theorem post_sizes {l : List UInt8} {q : M.DQ} {ps : List M.Part} (n : Nat) : (M.sizesOf q.held n).set (M.leastId q.held) ps.length = M.sizesOf (M.postQ l q ps).held n := by
  have hno := (leastId_le q.held).2
  refine set_sizes _ _ _ _ _ ?_ fun i hi => ?_
  · simp only [M.postQ]; rw [sizeOf_append, if_neg (by simp [hno]), if_pos rfl]
  · simp only [M.postQ]; rw [sizeOf_append]
    by_cases h : M.hasId q.held (i : Int) = true
    · rw [if_pos h]
    · rw [if_neg h, if_neg (by dsimp only; omega), sizeOf_no (by simpa using h)]
theorem reap_sizes {q : M.DQ} {id n : Int} (hid : 0 ≤ id) (k : Nat) : (M.sizesOf q.held k).set id.toNat 0 = M.sizesOf (M.reapQ q id n).held k := by
  refine set_sizes _ _ _ _ _ ?_ fun i hi => ?_
  · simp only [M.reapQ]; rw [sizeOf_filter, if_pos (by omega)]
  · simp only [M.reapQ]; rw [sizeOf_filter, if_neg (by omega)]
theorem postGo_s (ring size id : Int) (cnt : Nat) (h1 : 1 ≤ size ∧ size ≤ 32768) (s0 : M.Spot) (hs : s0.In size) : ∀ (ps : List M.Part) (i : Nat) (st : M.PSt) (k : Nat), st.s = (M.spotNext s0 k size).1 → (k : Int) + ps.length ≤ size → (M.postGo ring size id cnt i ps st).s = (M.spotNext s0 ((k : Int) + ps.length) size).1
  | [], _, _, _, h, _ => by simp only [M.postGo]; rw [h]; simp
  | p :: r, i, st, k, h, hk => by
    simp only [List.length_cons] at hk
    simp only [M.postGo]
    have hin := (spotNext_in hs h1 (n := (k : Int)) (by omega)).1
    rw [postGo_s ring size id cnt h1 s0 hs r (i + 1) _ (k + 1) ?_ (by omega)]
    · congr 2; simp only [List.length_cons]; omega
    · rw [postStep_s, h, show ((k + 1 : Nat) : Int) = (k : Int) + 1 by omega, spotNext_succ h1 hs (by omega), spotNext_1 h1 hin]
theorem postAll_s {l : List UInt8} {q : M.DQ} {ps : List M.Part} (hq : q.Inv) (hp : (ps.length : Int) ≤ q.l.size) : (M.postAll l q ps).s = (M.spotNext q.next ps.length q.l.size).1 := by
  unfold M.postAll
  rw [postGo_s _ _ _ _ hq.ok.size q.next hq.ok.next ps 0 _ 0 (by rw [show ((0 : Nat) : Int) = 0 from rfl, spotNext_zero hq.ok.size hq.ok.next]) (by omega)]
  congr 2; omega
end Go.Proofs.YthfcneahnldgnaaGreat
