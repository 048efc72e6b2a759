/- drvq: a ring's places in memory (plain): what is read at a place. -/
import Derived.Test.YthfcneahnldgnaaDrvqRing
namespace Go.Proofs.Ythfcneahnldgnaa
open Go Vk
set_option linter.unusedSimpArgs false
set_option linter.unusedVariables false
theorem beN_snoc (l : List UInt8) (b : UInt8) : M.beN (l ++ [b]) = M.beN l * 256 + b.toNat := by rw [beN_append]; simp [M.beN]
theorem beN_leB : ∀ (n v : Nat), M.beN (M.leB v n).reverse = v % 256 ^ n
  | 0, v => by simp [M.leB, M.beN]; omega
  | n + 1, v => by
    have e : (M.leB v (n + 1)) = UInt8.ofNat (v % 256) :: M.leB (v / 256) n := by
      unfold M.leB
      rw [List.range_succ_eq_map, List.map_cons, List.map_map]
      congr 1
      · simp [M.byteAt]
      · apply List.map_congr_left
        intro k _
        simp only [Function.comp_def, M.byteAt]
        congr 2
        rw [Nat.pow_succ, Nat.mul_comm, Nat.div_div_eq_div_mul]
    rw [e, List.reverse_cons, beN_snoc, beN_leB n (v / 256)]
    have h1 : (UInt8.ofNat (v % 256)).toNat = v % 256 := by
      rw [UInt8.toNat_ofNat']; omega
    rw [h1, Nat.pow_succ, Nat.mul_comm (256 ^ n) 256, Nat.mod_mul]
    omega
theorem beN_leB_int (v : Int) (n : Nat) (h : 0 ≤ v ∧ v < 256 ^ n) : ((M.beN (M.leB v.toNat n).reverse : Nat) : Int) = v := by
  rw [beN_leB, Nat.mod_eq_of_lt]
  · omega
  · have h2 := h.2
    obtain ⟨m, rfl⟩ := Int.eq_ofNat_of_zero_le h.1
    rw [Int.toNat_natCast]
    refine Int.ofNat_lt.1 ?_
    rw [Int.natCast_pow]
    exact h2
structure M.Desc.In (d : M.Desc) : Prop where
  addr : 0 ≤ d.addr ∧ d.addr < 18446744073709551616
  len : 0 ≤ d.len ∧ d.len < 4294967296
  id : 0 ≤ d.id ∧ d.id < 65536
  flags : 0 ≤ d.flags ∧ d.flags < 65536
theorem descOf_buildB (d : M.Desc) (h : d.In) : M.descOf (M.buildB d) = d := by
  have e1 : (M.buildB d).take 8 = M.leB d.addr.toNat 8 := by unfold M.buildB; rw [List.append_assoc, List.append_assoc, List.take_left' (leB_length _ _)]
  have e2 : ((M.buildB d).drop 8).take 4 = M.leB d.len.toNat 4 := by
    unfold M.buildB; rw [List.append_assoc, List.append_assoc, List.drop_left' (leB_length _ _), List.take_left' (leB_length _ _)]
  have e3 : ((M.buildB d).drop 12).take 2 = M.leB d.id.toNat 2 := by
    unfold M.buildB; rw [List.append_assoc, List.drop_left' (by simp), List.take_left' (leB_length _ _)]
  have e4 : ((M.buildB d).drop 14).take 2 = M.leB d.flags.toNat 2 := by
    unfold M.buildB; rw [List.drop_left' (by simp), List.take_of_length_le (by simp)]
  unfold M.descOf
  rw [e1, e2, e3, e4, beN_leB_int _ _ h.addr, beN_leB_int _ _ h.len, beN_leB_int _ _ h.id, beN_leB_int _ _ h.flags]
namespace M
def sl16 (l : List UInt8) (a : Int) : List UInt8 := (l.drop a.toNat).take 16
def descAt (l : List UInt8) (a : Int) : Desc := descOf (sl16 l a)
end M
theorem sl16_length {l : List UInt8} {a : Int} (h : 0 ≤ a ∧ a + 16 ≤ l.length) : (M.sl16 l a).length = 16 := by unfold M.sl16; simp; omega
theorem sl16_get {l : List UInt8} {a : Int} (i : Nat) (hi : i < 16) : (M.sl16 l a)[i]? = l[a.toNat + i]? := by unfold M.sl16; rw [List.getElem?_take_of_lt hi, List.getElem?_drop]
theorem sl16_same {l : List UInt8} {a : Int} {s : List UInt8} (hs : s.length = 16) (h : 0 ≤ a ∧ a + 16 ≤ l.length) : M.sl16 (M.writeM l a s) a = s := by
  apply List.ext_getElem?
  intro i
  rw [writeM_eq (by omega)]
  rcases Nat.lt_or_ge i 16 with hi | hi
  · rw [sl16_get i hi, getElem?_wr _ _ _ (by omega), if_pos (by omega)]
    congr 1; omega
  · rw [List.getElem?_eq_none (by rw [sl16_length (by rw [wr_length _ _ _ (by omega)]; omega)]; exact hi), List.getElem?_eq_none (by omega)]
theorem sl16_other {l : List UInt8} {a b : Int} {s : List UInt8} (h : 0 ≤ a ∧ a + 16 ≤ l.length) (h2 : 0 ≤ b ∧ b + s.length ≤ l.length) (hd : a + 16 ≤ b ∨ b + s.length ≤ a) : M.sl16 (M.writeM l b s) a = M.sl16 l a := by
  apply List.ext_getElem?
  intro i
  rw [writeM_eq (by omega)]
  rcases Nat.lt_or_ge i 16 with hi | hi
  · rw [sl16_get i hi, getElem?_wr _ _ _ (by omega), if_neg (by omega), sl16_get i hi]
  · rw [List.getElem?_eq_none (by rw [sl16_length (by rw [wr_length _ _ _ (by omega)]; omega)]; exact hi), List.getElem?_eq_none (by rw [sl16_length h]; exact hi)]
theorem reapDesc_at {l : List UInt8} {q : M.DQ} (h : 0 ≤ q.l.ring + 16 * q.back.at_ ∧ q.l.ring + 16 * q.back.at_ + 16 ≤ l.length) : M.reapDesc l q = M.descAt l (q.l.ring + 16 * q.back.at_) := by
  have e : M.read l (q.l.ring + 16 * q.back.at_) 16 = (M.sl16 l (q.l.ring + 16 * q.back.at_), 0) := by
    unfold M.read
    rw [if_neg (by omega), if_pos (by simp only [M.mayAt, decide_eq_true_eq]; omega)]
    rfl
  unfold M.reapDesc
  simp only [e, sl16_length h, if_true]
  rfl
theorem says_mark (f : Int) (w u w' : Bool) (h : 0 ≤ f ∧ f < 4) : M.says (M.mark f w u) w' = if w = w' then (if u then 2 else 1) else 0 := by
  have hf : f = 0 ∨ f = 1 ∨ f = 2 ∨ f = 3 := by omega
  rcases hf with rfl | rfl | rfl | rfl <;> cases w <;> cases u <;> cases w' <;> rfl
theorem postFlags_says (cnt i : Nat) (p : M.Part) (w w' : Bool) : M.says (M.postFlags cnt i p w) w' = if w = w' then 1 else 0 := by
  unfold M.postFlags
  rw [says_mark _ _ _ _ (by split <;> split <;> omega)]
  simp
end Go.Proofs.Ythfcneahnldgnaa
