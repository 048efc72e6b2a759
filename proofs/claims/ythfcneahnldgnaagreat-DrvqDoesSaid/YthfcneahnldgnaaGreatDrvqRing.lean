/- drvq: a ring's places in memory (plain): what Post writes, place by place. -/
import Derived.Test.YthfcneahnldgnaaGreatFns15
namespace Go.Proofs.YthfcneahnldgnaaGreat
open Go Vk
set_option linter.unusedSimpArgs false
set_option linter.unusedVariables false
theorem getElem?_wr (l : List UInt8) (a : Nat) (s : List UInt8) (h : a + s.length ≤ l.length) (i : Nat) : (M.wr l a s)[i]? = if a ≤ i ∧ i < a + s.length then s[i - a]? else l[i]? := by
  unfold M.wr
  have hta : (l.take a).length = a := by simp; omega
  rcases Nat.lt_or_ge i a with h1 | h1
  · rw [if_neg (by omega), List.append_assoc, List.getElem?_append_left (by omega), List.getElem?_take_of_lt h1]
  · rcases Nat.lt_or_ge i (a + s.length) with h2 | h2
    · rw [if_pos ⟨h1, h2⟩, List.append_assoc, List.getElem?_append_right (by omega), List.getElem?_append_left (by omega), hta]
    · rw [if_neg (by omega), List.getElem?_append_right (by simp; omega), List.getElem?_drop]
      congr 1
      simp
      omega
theorem wr_comm (l : List UInt8) (a b : Nat) (s t : List UInt8) (h1 : a + s.length ≤ b ∨ b + t.length ≤ a) (h2 : a + s.length ≤ l.length) (h3 : b + t.length ≤ l.length) : M.wr (M.wr l a s) b t = M.wr (M.wr l b t) a s := by
  apply List.ext_getElem?
  intro i
  rw [getElem?_wr _ _ _ (by rw [wr_length _ _ _ h2]; exact h3), getElem?_wr l a s h2, getElem?_wr _ _ _ (by rw [wr_length _ _ _ h3]; exact h2), getElem?_wr l b t h3]
  by_cases c1 : b ≤ i ∧ i < b + t.length <;> by_cases c2 : a ≤ i ∧ i < a + s.length <;> simp only [c1, c2, if_true, if_false, and_self] <;> omega
theorem wr_adj (l : List UInt8) (a b : Nat) (s t : List UInt8) (h1 : b = a + s.length) (h3 : b + t.length ≤ l.length) : M.wr (M.wr l a s) b t = M.wr l a (s ++ t) := by
  subst h1
  apply List.ext_getElem?
  intro i
  rw [getElem?_wr _ _ _ (by rw [wr_length _ _ _ (by omega)]; exact h3), getElem?_wr _ _ _ (by omega), getElem?_wr _ _ _ (by simp; omega)]
  simp only [List.length_append]
  by_cases c1 : a + s.length ≤ i ∧ i < a + s.length + t.length
  · rw [if_pos c1, if_pos (by omega), List.getElem?_append_right (by omega)]
    congr 1; omega
  · rw [if_neg c1]
    by_cases c2 : a ≤ i ∧ i < a + s.length
    · rw [if_pos c2, if_pos (by omega), List.getElem?_append_left (by omega)]
    · rw [if_neg c2, if_neg (by omega)]
theorem buildB_length (d : M.Desc) : (M.buildB d).length = 16 := by simp [M.buildB, leB_length]
theorem writeM_eq {l : List UInt8} {a : Int} {s : List UInt8} (h : 0 ≤ a ∧ a + s.length ≤ l.length) : M.writeM l a s = M.wr l a.toNat s := by
  unfold M.writeM M.write
  rw [if_pos (by simp only [M.mayAt, decide_eq_true_eq]; omega)]
theorem storeM_eq {l : List UInt8} {a v : Int} (n : Nat) (hn : n = 1 ∨ n = 2 ∨ n = 4 ∨ n = 8) (hv : 0 ≤ v ∧ v < 2 ^ (8 * n)) (h : 0 ≤ a ∧ a + n ≤ l.length) : M.storeM l a n v = M.wr l a.toNat (M.leB v.toNat n) := by
  unfold M.storeM M.store
  rw [if_pos (by simp only [M.sized, decide_eq_true_eq]; omega), put_le v n (by omega) hv]
  rw [if_pos rfl]
  unfold M.write
  rw [if_pos (by simp only [M.mayAt, decide_eq_true_eq, leB_length]; omega)]
/-- Four numbers one behind another are a descriptor. -/
theorem store4 {l : List UInt8} {a : Int} (d : M.Desc) (h1 : 0 ≤ d.addr ∧ d.addr < 18446744073709551616) (h2 : 0 ≤ d.len ∧ d.len < 4294967296) (h3 : 0 ≤ d.id ∧ d.id < 65536) (h4 : 0 ≤ d.flags ∧ d.flags < 65536) (h : 0 ≤ a ∧ a + 16 ≤ l.length) :
    M.storeM (M.storeM (M.storeM (M.storeM l a 8 d.addr) (a + 8) 4 d.len) (a + 12) 2 d.id) (a + 14) 2 d.flags = M.writeM l a (M.buildB d) := by
  have e8 : M.storeM l a 8 d.addr = M.wr l a.toNat (M.leB d.addr.toNat 8) := storeM_eq 8 (by omega) (by omega) (by omega)
  rw [e8]
  have l8 : (M.wr l a.toNat (M.leB d.addr.toNat 8)).length = l.length := wr_length _ _ _ (by rw [leB_length]; omega)
  have e4 : M.storeM (M.wr l a.toNat (M.leB d.addr.toNat 8)) (a + 8) 4 d.len = M.wr l a.toNat (M.leB d.addr.toNat 8 ++ M.leB d.len.toNat 4) := by
    rw [show (4 : Int) = ((4 : Nat) : Int) from rfl, storeM_eq 4 (by omega) (by omega) (by omega)]
    exact wr_adj _ _ _ _ _ (by rw [leB_length]; omega) (by rw [leB_length]; omega)
  rw [e4]
  have l4 : (M.wr l a.toNat (M.leB d.addr.toNat 8 ++ M.leB d.len.toNat 4)).length = l.length := wr_length _ _ _ (by simp [leB_length]; omega)
  have e2 : M.storeM (M.wr l a.toNat (M.leB d.addr.toNat 8 ++ M.leB d.len.toNat 4)) (a + 12) 2 d.id = M.wr l a.toNat (M.leB d.addr.toNat 8 ++ M.leB d.len.toNat 4 ++ M.leB d.id.toNat 2) := by
    rw [show (2 : Int) = ((2 : Nat) : Int) from rfl, storeM_eq 2 (by omega) (by omega) (by omega)]
    exact wr_adj _ _ _ _ _ (by simp [leB_length]; omega) (by rw [leB_length]; omega)
  rw [e2]
  have l2 : (M.wr l a.toNat (M.leB d.addr.toNat 8 ++ M.leB d.len.toNat 4 ++ M.leB d.id.toNat 2)).length = l.length := wr_length _ _ _ (by simp [leB_length]; omega)
  rw [show (2 : Int) = ((2 : Nat) : Int) from rfl, storeM_eq 2 (by omega) (by omega) (by omega)]
  rw [wr_adj _ _ _ _ _ (by simp [leB_length]; omega) (by rw [leB_length]; omega), writeM_eq (by rw [buildB_length]; omega)]
  rfl
namespace M
/-- A chain's parts, place by place. -/
def ringGo (ring size id : Int) (cnt : Nat) : Nat → List Part → List UInt8 → Spot → List UInt8
  | _, [], l, _ => l
  | i, p :: r, l, s => ringGo ring size id cnt (i + 1) r (writeM l (ring + 16 * s.at_) (buildB ⟨p.at_, p.n, id, postFlags cnt i p s.wrap⟩)) (spotNext s 1 size).1
end M
theorem postGo_cons (ring size id : Int) (cnt i : Nat) (p : M.Part) (r : List M.Part) (st : M.PSt) : M.postGo ring size id cnt i (p :: r) st = M.postGo ring size id cnt (i + 1) r (M.postStep ring size id cnt i p st) := rfl
theorem ringGo_cons (ring size id : Int) (cnt i : Nat) (p : M.Part) (r : List M.Part) (l : List UInt8) (s : M.Spot) : M.ringGo ring size id cnt i (p :: r) l s = M.ringGo ring size id cnt (i + 1) r (M.writeM l (ring + 16 * s.at_) (M.buildB ⟨p.at_, p.n, id, M.postFlags cnt i p s.wrap⟩)) (M.spotNext s 1 size).1 := rfl
theorem ringGo_length (ring size id : Int) (cnt : Nat) : ∀ (ps : List M.Part) (i : Nat) (l : List UInt8) (s : M.Spot), (M.ringGo ring size id cnt i ps l s).length = l.length
  | [], _, _, _ => rfl
  | p :: r, i, l, s => by simp only [M.ringGo]; rw [ringGo_length ring size id cnt r]; simp
theorem spotNext_one {s : M.Spot} {size : Int} (h : s.In size) (hs : 1 ≤ size ∧ size ≤ 32768) : (M.spotNext s 1 size).1 = if s.at_ + 1 = size then ⟨0, !s.wrap⟩ else ⟨s.at_ + 1, s.wrap⟩ := by
  obtain ⟨h1, h2⟩ := h
  have hc : M.spotCheck s size = 0 := by unfold M.spotCheck; rw [if_neg (by omega), if_neg (by omega)]
  unfold M.spotNext
  rw [if_neg (by simp [hc]), if_neg (by omega)]
  by_cases h : s.at_ + 1 = size
  · rw [if_pos (by omega), if_pos h]; simp; omega
  · rw [if_neg (by omega), if_neg h]
/-- How far a place lies behind another one. -/
def M.Spot.off (s t : M.Spot) (size : Int) : Int := (t.at_ - s.at_) % size
theorem postGo_ring {ring size id : Int} {cnt : Nat} (hs : 1 ≤ size ∧ size ≤ 32768) (hid : 0 ≤ id ∧ id < 65536) {N : Nat} (hring : 0 ≤ ring ∧ ring + 16 * size ≤ N) (fl a0 : Int) (hfl : 0 ≤ fl ∧ fl < 65536) (ha0 : 0 ≤ a0 ∧ a0 < size) :
    ∀ (ps : List M.Part) (i : Nat) (l : List UInt8) (s : M.Spot), (∀ p ∈ ps, 0 ≤ p.at_ ∧ p.at_ < 18446744073709551616 ∧ 0 ≤ p.n ∧ p.n < 4294967296) → 1 ≤ i → l.length = N → s.In size → (i : Int) + ps.length ≤ size → (s.at_ - a0) % size = i % size →
    M.storeM (M.postGo ring size id cnt i ps ⟨l, s, fl⟩).mem (ring + 16 * a0 + 14) 2 fl = M.ringGo ring size id cnt i ps (M.storeM l (ring + 16 * a0 + 14) 2 fl) s ∧ (M.postGo ring size id cnt i ps ⟨l, s, fl⟩).first = fl
  | [], i, l, s, _, _, _, _, _, _ => ⟨rfl, rfl⟩
  | p :: r, i, l, s, hp, hi, hl, hin, hcnt, hoff => by
    have hpp := hp p (by simp)
    obtain ⟨hs1, hs2⟩ := hin
    have hne : s.at_ ≠ a0 := by
      intro he
      subst he
      simp only [List.length_cons] at hcnt
      rw [Int.sub_self, Int.zero_emod, Int.emod_eq_of_lt (by omega) (by omega)] at hoff
      omega
    have hfl' := postFlags_lt cnt i p s.wrap
    simp only [M.postGo, M.ringGo]
    rw [postStep_pos (by omega)]
    dsimp only
    rw [store4 (a := ring + 16 * s.at_) ⟨p.at_, p.n, id, M.postFlags cnt i p s.wrap⟩ (by dsimp only; omega) (by dsimp only; omega) hid hfl' (by omega)]
    have hn := spotNext_one ⟨hs1, hs2⟩ hs
    have hin' := (spotNext_in (s := s) (n := 1) ⟨hs1, hs2⟩ hs (by omega)).1
    have hoff' : ((M.spotNext s 1 size).1.at_ - a0) % size = ((i + 1 : Nat) : Int) % size := by
      rw [hn]
      have e1 : ((i + 1 : Nat) : Int) % size = (s.at_ - a0 + 1) % size := by
        rw [show ((i + 1 : Nat) : Int) = (i : Int) + 1 by omega, Int.add_emod, ← hoff, ← Int.add_emod]
      rw [e1]
      split
      · rename_i h
        rw [show s.at_ - a0 + 1 = (0 - a0) + size by omega, Int.add_emod_right]
      · dsimp only; congr 1; omega
    have ih := postGo_ring (id := id) (cnt := cnt) hs hid hring fl a0 hfl ha0 r (i + 1) (M.writeM l (ring + 16 * s.at_) (M.buildB ⟨p.at_, p.n, id, M.postFlags cnt i p s.wrap⟩)) (M.spotNext s 1 size).1 (fun x hx => hp x (by simp [hx])) (by omega) (by rw [writeM_length]; exact hl) hin' (by simp only [List.length_cons] at hcnt; omega) hoff'
    refine ⟨?_, ih.2⟩
    rw [ih.1]
    congr 1
    have e : ∀ l' : List UInt8, l'.length = N → M.storeM l' (ring + 16 * a0 + 14) 2 fl = M.wr l' (ring + 16 * a0 + 14).toNat (M.leB fl.toNat 2) := fun l' hl' => storeM_eq 2 (by omega) (by omega) (by omega)
    rw [e _ (by rw [writeM_length]; exact hl), e _ hl, writeM_eq (by rw [buildB_length]; omega), writeM_eq (by rw [buildB_length, wr_length _ _ _ (by rw [leB_length]; omega)]; omega)]
    exact wr_comm _ _ _ _ _ (by rw [buildB_length, leB_length]; omega) (by rw [buildB_length]; omega) (by rw [leB_length]; omega)
/-- What Post writes: descriptors, place by place. -/
theorem postMem_ring {l : List UInt8} {q : M.DQ} {ps : List M.Part} (hq : q.Inv) (hN : q.l.ring + 16 * q.l.size ≤ l.length) (hE : M.mayPost l.length q.free ps = 0) (hl : l.length ≤ 1048576) :
    M.postMem l q ps = M.ringGo q.l.ring q.l.size (M.leastId q.held : Nat) ps.length 0 ps l q.next := by
  obtain ⟨h1, h2, h3, h4⟩ := mayPost_ok hE
  have hid := leastId_lt hq (by omega)
  have hf := hq.ok.free
  have hs := hq.ok.size
  have hr := hq.ok.ring
  have hpp := partsOk_all h3
  have hnx : 0 ≤ q.next.at_ ∧ q.next.at_ < q.l.size := hq.ok.next
  match ps, h1, h2, h4, hpp with
  | [], h1, _, _, _ => simp at h1
  | p :: r, _, h2, h4, hpp =>
    have hp := hpp p (by simp)
    have hfl := postFlags_lt (p :: r).length 0 p q.next.wrap
    unfold M.postMem M.postAll
    rw [postGo_cons, ringGo_cons, postStep_zero rfl]
    dsimp only
    have key := postGo_ring (ring := q.l.ring) (id := (M.leastId q.held : Nat)) (cnt := (p :: r).length) hs (by omega) (N := l.length) (by omega) (M.postFlags (p :: r).length 0 p q.next.wrap) q.next.at_ hfl hnx r 1
      (M.storeM (M.storeM (M.storeM l (q.l.ring + 16 * q.next.at_) 8 p.at_) (q.l.ring + 16 * q.next.at_ + 8) 4 p.n) (q.l.ring + 16 * q.next.at_ + 12) 2 (M.leastId q.held : Nat)) (M.spotNext q.next 1 q.l.size).1
      (fun x hx => by have := hpp x (by simp [hx]); omega) (by omega) (by simp) (spotNext_in hnx hs (by omega)).1 (by simp only [List.length_cons] at h4; omega) (by
        rw [spotNext_one hnx hs]
        split
        · rename_i h
          dsimp only
          rw [show (0 : Int) - q.next.at_ = ((1 : Nat) : Int) - q.l.size by omega, Int.sub_emod_right]
        · dsimp only; congr 1; omega)
    rw [key.2, key.1, store4 (a := q.l.ring + 16 * q.next.at_) ⟨p.at_, p.n, (M.leastId q.held : Nat), M.postFlags (p :: r).length 0 p q.next.wrap⟩ (by dsimp only; omega) (by dsimp only; omega) (by dsimp only; omega) hfl (by omega)]
end Go.Proofs.YthfcneahnldgnaaGreat
