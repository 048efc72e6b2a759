/- words: numbers in bytes: contracts of the program's functions and of the reference's. -/
import Derived.Test.YthfcneahnldgnaaGreatVkSep
import Derived.Test.YthfcneahnldgnaaGreatTrees
namespace Go.Proofs.YthfcneahnldgnaaGreat
open Go Vk
set_option linter.unusedSimpArgs false
set_option linter.unusedVariables false

/-! ### Bytes -/
abbrev bl (s : ByteArray) : List UInt8 := s.data.toList
def mkB (l : List UInt8) : ByteArray := ⟨l.toArray⟩
@[simp] theorem bl_mkB (l : List UInt8) : bl (mkB l) = l := by simp [bl, mkB]
@[simp] theorem mkB_bl (s : ByteArray) : mkB (bl s) = s := by simp [bl, mkB]
@[simp] theorem mkB_size (l : List UInt8) : (mkB l).size = l.length := by simp [mkB, ByteArray.size]
theorem bl_length (s : ByteArray) : (bl s).length = s.size := by simp [bl]
theorem mkB_append (a b : List UInt8) : mkB a ++ mkB b = mkB (a ++ b) := by
  have : (mkB a ++ mkB b).data = (mkB (a ++ b)).data := by rw [ByteArray.data_append]; simp [mkB]
  exact ByteArray.ext this
theorem mkB_extract (l : List UInt8) (i j : Nat) : (mkB l).extract i j = mkB ((l.take j).drop i) := by
  have : ((mkB l).extract i j).data = (mkB ((l.take j).drop i)).data := by
    rw [ByteArray.data_extract]; simp [mkB, List.drop_take]
  exact ByteArray.ext this
theorem bt_eq (s : ByteArray) (i : Int) : bt s i = (((bl s).getD i.toNat 0).toNat : Int) := by
  simp [bt, bl, Array.getD, List.getD]
  split <;> simp_all
theorem wrap_u8 (n : Int) : IntKind.u8.wrap n = n % 256 := by rw [IntKind.wrap_u8]
theorem w64 {n : Int} (h : -9223372036854775808 ≤ n ∧ n ≤ 9223372036854775807) : IntKind.i64.wrap n = n := IntWalk.i64_in n h
theorem u64 {n : Int} (h : 0 ≤ n ∧ n ≤ 18446744073709551615) : IntKind.u64.wrap n = n := IntWalk.u64_in n h

/-! ### The model -/
namespace M
def byteAt (v k : Nat) : Nat := v / 256 ^ k % 256
def may (v n : Int) : Bool := decide (1 ≤ n ∧ n ≤ 8 ∧ v < 2 ^ (8 * n.toNat))
def leB (v N : Nat) : List UInt8 := (List.range N).map fun j => UInt8.ofNat (byteAt v j)
def beB (v N : Nat) : List UInt8 := (leB v N).reverse
def turn (l : List UInt8) : List UInt8 := l.reverse
def put (v n : Int) (big : Bool) : List UInt8 × Int :=
  if may v n then (if big then beB v.toNat n.toNat else leB v.toNat n.toNat, 0) else ([], 1)
def beN (l : List UInt8) : Nat := l.foldl (fun v b => v * 256 + b.toNat) 0
def get (s : List UInt8) (at_ n : Int) (big : Bool) : Int × Int :=
  if n < 1 ∨ 8 < n then (0, 1)
  else if at_ < 0 ∨ (s.length : Int) - n < at_ then (0, 10)
  else ((beN (let t := (s.drop at_.toNat).take n.toNat; if big then t else t.reverse) : Nat), 0)
end M

theorem shr_eq (x : Int) (k : Nat) (h0 : 0 ≤ x) (hk : k < 8) : bshr .u64 x (8 * (k : Int)) = ((x.toNat / 256 ^ k : Nat) : Int) := by
  unfold bshr
  have h1 : min (8 * (k : Int)).toNat (IntKind.u64.bits) = 8 * k := by
    have : IntKind.u64.bits = 64 := rfl
    omega
  rw [h1, Int.fdiv_eq_ediv_of_nonneg _ (by exact_mod_cast Nat.zero_le _)]
  have h2 : (2 : Int) ^ (8 * k) = ((256 ^ k : Nat) : Int) := by
    rw [Int.pow_mul]; norm_cast
  rw [h2]
  obtain ⟨m, rfl⟩ := Int.eq_ofNat_of_zero_le h0
  simp

section
variable {w0 w : World} {W : List Nat} {B : List Res}

theorem words_may_spec (h : St w0 W w B) (x0 x1 : Int) (h0 : 0 ≤ x0) (h1 : x0 < 18446744073709551616) :
    Calls Tryz.prog 74 #[.int .u64 x0, .int .i64 x1] w fun e w' => e = .returned (.bool (M.may x0 x1)) ∧ St w0 W w' B := by
  refine words_may.calls x0 x1 ?_
  unfold words_may.T
  refine t_if (fun h1 => ?_) (fun h1 => t_ret ⟨?_, h⟩)
  · refine t_if (fun h2 => ?_) (fun h2 => t_ret ⟨?_, h⟩)
    · refine t_if (fun h3 => t_ret ⟨?_, h⟩) (fun h3 => ?_)
      · subst h3
        simp [M.may]; omega
      · obtain ⟨k, rfl⟩ := Int.eq_ofNat_of_zero_le (show 0 ≤ x1 by omega)
        rw [w64 (by omega), shr_eq x0 k h0 (by omega)]
        refine t_need (by omega) (t_ret ⟨?_, h⟩)
        have hp : (2 : Int) ^ (8 * (k : Int).toNat) = ((256 ^ k : Nat) : Int) := by rw [Int.toNat_natCast, Int.pow_mul]; norm_cast
        have hpos : 0 < 256 ^ k := Nat.pow_pos (by omega)
        simp only [M.may, hp]
        congr 2
        rw [decide_eq_decide]
        constructor
        · intro hz
          have : x0.toNat / 256 ^ k = 0 := by exact_mod_cast hz
          rw [Nat.div_eq_zero_iff] at this
          omega
        · rintro ⟨_, _, hlt⟩
          have : x0.toNat / 256 ^ k = 0 := by rw [Nat.div_eq_zero_iff]; omega
          exact_mod_cast this
    · simp [M.may]; omega
  · simp [M.may]; omega

theorem slI_bytes : slI Tryz.prog 65 = some (5, 1, 1, .int .u8 0) := by kernel_rfl
theorem bytesT : isBytesT Tryz.prog 65 9 = true := by kernel_rfl

theorem zeroRow_u8 (n : Nat) : zeroRow (Value.int .u8 0).cells.toList n = u8s (List.replicate n 0) := by
  induction n with
  | zero => rfl
  | succ n ih => simp only [zeroRow, ih, u8s, List.replicate_succ]; rfl

theorem setL_u8s (l : List UInt8) (i : Nat) (x : Int) (b : UInt8) (h : x = (b.toNat : Int)) : setL (u8s l) i [.int .u8 x] = u8s (l.set i b) := by
  subst h; simp [setL, u8s, List.map_set]

/-- A list that is written from its end on. -/
def backL (f : Nat → UInt8) (n k : Nat) : List UInt8 := (List.range n).map fun j => if n - 1 - j < k then f (n - 1 - j) else 0
theorem backL_zero (f : Nat → UInt8) (n : Nat) : backL f n 0 = List.replicate n 0 := by
  apply List.ext_getElem?
  intro i
  by_cases hi : i < n
  · simp [backL, hi, List.getElem?_replicate]
  · simp [backL, hi, List.getElem?_replicate]
theorem backL_set (f : Nat → UInt8) (n k : Nat) (hk : k < n) : (backL f n k).set (n - 1 - k) (f k) = backL f n (k + 1) := by
  unfold backL
  rw [map_range_set]
  apply List.map_congr_left
  intro j hj
  have hj' := List.mem_range.1 hj
  by_cases h1 : j = n - 1 - k
  · have : n - 1 - j = k := by omega
    rw [if_pos h1, this, if_pos (by omega)]
  · rw [if_neg h1]
    have : n - 1 - j ≠ k := by omega
    by_cases h2 : n - 1 - j < k
    · rw [if_pos h2, if_pos (by omega)]
    · rw [if_neg h2, if_neg (by omega)]
theorem backL_full (f : Nat → UInt8) (n : Nat) : backL f n n = ((List.range n).map f).reverse := by
  apply List.ext_getElem?
  intro i
  by_cases hi : i < n
  · rw [List.getElem?_reverse (by simpa using hi)]
    have h3 : n - 1 - i < n := by omega
    simp [backL, hi, h3]
  · rw [List.getElem?_eq_none (by simp [backL]; omega), List.getElem?_eq_none (by simp; omega)]
@[simp] theorem backL_length (f : Nat → UInt8) (n k : Nat) : (backL f n k).length = n := by simp [backL]
theorem map_range_getD (l : List UInt8) : (List.range l.length).map (fun j => l.getD j 0) = l := by
  apply List.ext_getElem?
  intro i
  by_cases hi : i < l.length
  · simp [hi]
  · simp [hi]

theorem words_Turn_spec (h : St w0 W w B) (l : List UInt8) (hl : l.length ≤ 140737488355328) :
    Calls Tryz.prog 75 #[.string (mkB l)] w fun e w' => e = .returned (.string (mkB l.reverse)) ∧ St w0 W w' B := by
  refine words_Turn.calls _ ?_
  unfold words_Turn.T
  rw [mkB_size]
  refine t_make h slI_bytes rfl (by omega) (by omega) (by omega) fun s w hsn hsc hsa h => ?_
  rw [zeroRow_u8, Int.toNat_natCast] at h
  rw [Int.toNat_natCast] at hsn
  obtain ⟨a, ha⟩ := Option.ne_none_iff_exists'.1 hsa
  refine t_loop (fun m st w' => ∃ k : Nat, k ≤ l.length ∧ m = l.length - k ∧ st = ((k : Int), ()) ∧ St w0 W w' (ownR s 5 1 (u8s (backL (fun j => l.getD j 0) l.length k)) :: B)) l.length
    ⟨0, by omega, rfl, rfl, by rw [backL_zero]; exact h⟩ ?_
  rintro m st w ⟨k, hk, rfl, rfl, h⟩ Ks hJ _
  dsimp only
  refine t_if (fun hc => ?_) (fun hc => ?_)
  · have hlt : k < l.length := by omega
    refine t_need ⟨by omega, hc⟩ ?_
    rw [w64 (n := (l.length : Int) - 1) (by omega), w64 (n := (l.length : Int) - 1 - k) (by omega), w64 (n := (k : Int) + 1) (by omega)]
    refine t_need ⟨by omega, by omega⟩ ?_
    rw [ha]
    refine t_nil ?_
    have hix : ((l.length : Int) - 1 - k).toNat * 1 = l.length - 1 - k := by omega
    rw [hix]
    refine t_stO h 0 rfl ha (by simp; omega) (by simp [Value.oneCell']) fun w h => ?_
    rw [setL_u8s _ _ _ (l.getD k 0) (by simp [bt_eq]), backL_set _ _ _ hlt] at h
    exact t_next (hJ (l.length - (k + 1)) ((k + 1 : Nat), ()) w (by omega) ⟨k + 1, by omega, rfl, rfl, h⟩)
  · have hke : k = l.length := by omega
    subst hke
    rw [backL_full, map_range_getD] at h
    exact t_str bytesT h 0 rfl (t_ret ⟨rfl, h.drop⟩)

theorem words_Put_spec (h : St w0 W w B) (x0 x1 : Int) (big : Bool) (h0 : 0 ≤ x0) (h1 : x0 < 18446744073709551616) :
    Calls Tryz.prog 54 #[.int .u64 x0, .int .i64 x1, .bool big] w fun e w' => e = .returned (.tuple #[.string (mkB (M.put x0 x1 big).1), .int .i64 (M.put x0 x1 big).2]) ∧ St w0 W w' B := by
  refine words_Put.calls _ _ _ ?_
  unfold words_Put.T
  refine t_callS (x := M.may x0 x1) (words_may_spec h x0 x1 h0 h1) fun w h => ?_
  refine t_not (fun hm => t_ret ⟨?_, h⟩) (fun hm => ?_)
  · simp [M.put, hm, mkB]
  have hm' := hm
  simp only [M.may, decide_eq_true_eq] at hm
  obtain ⟨n, rfl⟩ := Int.eq_ofNat_of_zero_le (show 0 ≤ x1 by omega)
  have hp : M.put x0 n big = (if big then M.beB x0.toNat n else M.leB x0.toNat n, 0) := by simp [M.put, hm']
  refine t_make h slI_bytes rfl (by omega) (by omega) (by omega) fun s w hsn hsc hsa h => ?_
  rw [zeroRow_u8, Int.toNat_natCast] at h
  rw [Int.toNat_natCast] at hsn
  obtain ⟨a, ha⟩ := Option.ne_none_iff_exists'.1 hsa
  refine t_loop (fun m st w' => ∃ k : Nat, k ≤ n ∧ m = n - k ∧ st = ((k : Int), ()) ∧ St w0 W w' (ownR s 5 1 (u8s (backL (fun j => UInt8.ofNat (M.byteAt x0.toNat j)) n k)) :: B)) n
    ⟨0, by omega, rfl, rfl, by rw [backL_zero]; exact h⟩ ?_
  rintro m st w ⟨k, hk, rfl, rfl, h⟩ Ks hJ _
  dsimp only
  refine t_if (fun hc => ?_) (fun hc => ?_)
  · have hlt : k < n := by omega
    rw [w64 (n := 8 * (k : Int)) (by omega), w64 (n := (n : Int) - 1) (by omega), w64 (n := (n : Int) - 1 - k) (by omega), w64 (n := (k : Int) + 1) (by omega)]
    refine t_need (by omega) (t_need ⟨by omega, by omega⟩ ?_)
    rw [ha]
    refine t_nil ?_
    have hix : ((n : Int) - 1 - k).toNat * 1 = n - 1 - k := by omega
    rw [hix]
    refine t_stO h 0 rfl ha (by simp; omega) (by simp [Value.oneCell']) fun w h => ?_
    rw [setL_u8s _ _ _ (UInt8.ofNat (M.byteAt x0.toNat k)) (by
      rw [shr_eq x0 k h0 (by omega), wrap_u8]
      have : M.byteAt x0.toNat k < 256 := Nat.mod_lt _ (by omega)
      simp [M.byteAt]), backL_set (fun j => UInt8.ofNat (M.byteAt x0.toNat j)) _ _ hlt] at h
    exact t_next (hJ (n - (k + 1)) ((k + 1 : Nat), ()) w (by omega) ⟨k + 1, by omega, rfl, rfl, h⟩)
  · have hke : k = n := by omega
    subst hke
    rw [backL_full] at h
    refine t_not (fun hb => ?_) (fun hb => ?_)
    · refine t_str bytesT h 0 rfl ?_
      have hT := words_Turn_spec h (M.beB x0.toNat k) (by simp [M.beB, M.leB]; omega)
      rw [show (M.beB x0.toNat k).reverse = M.leB x0.toNat k by simp [M.beB]] at hT
      refine t_callS (x := mkB (M.leB x0.toNat k)) hT fun w h => t_ret ⟨?_, h.drop⟩
      subst hb; rw [hp]; rfl
    · refine t_str bytesT h 0 rfl (t_ret ⟨?_, h.drop⟩)
      subst hb; rw [hp]; rfl

theorem beN_append (a b : List UInt8) : M.beN (a ++ b) = M.beN a * 256 ^ b.length + M.beN b := by
  have H : ∀ (b : List UInt8) (v : Nat), b.foldl (fun v b => v * 256 + b.toNat) v = v * 256 ^ b.length + M.beN b := by
    intro b
    induction b with
    | nil => intro v; simp [M.beN]
    | cons x b ih =>
      intro v
      unfold M.beN
      simp only [List.foldl_cons, List.length_cons, ih]
      rw [Nat.pow_succ, Nat.add_mul]
      simp only [Nat.mul_assoc, Nat.mul_comm, Nat.zero_mul, Nat.zero_add, Nat.add_assoc, Nat.mul_left_comm]
  unfold M.beN
  rw [List.foldl_append, H]
  rfl
theorem beN_lt (a : List UInt8) : M.beN a < 256 ^ a.length := by
  have H : ∀ (a : List UInt8) (v : Nat), a.foldl (fun v b => v * 256 + b.toNat) v < (v + 1) * 256 ^ a.length := by
    intro a
    induction a with
    | nil => intro v; simp
    | cons x a ih =>
      intro v
      have h := ih (v * 256 + x.toNat)
      have hx := x.toNat_lt
      simp only [List.foldl_cons, List.length_cons, Nat.pow_succ]
      have : (v * 256 + x.toNat + 1) * 256 ^ a.length ≤ ((v + 1) * 256) * 256 ^ a.length := Nat.mul_le_mul_right _ (by omega)
      rw [Nat.mul_comm (256 ^ a.length) 256, ← Nat.mul_assoc]
      omega
  have := H a 0
  rw [Nat.zero_add, Nat.one_mul] at this
  exact this
theorem or_toNat (n : Nat) (a b : Nat) (ha : a < 2 ^ n) (hb : b < 2 ^ n) : (BitVec.ofInt n (a : Int) ||| BitVec.ofInt n (b : Int)).toNat = a ||| b := by
  rw [BitVec.toNat_or, BitVec.ofInt_natCast, BitVec.ofInt_natCast, BitVec.toNat_ofNat, BitVec.toNat_ofNat, Nat.mod_eq_of_lt ha, Nat.mod_eq_of_lt hb]
theorem bor_nat (k : IntKind) (a b : Nat) (ha : a < 2 ^ k.bits) (hb : b < 2 ^ k.bits) : bor k (a : Int) (b : Int) = k.wrap ((a ||| b : Nat) : Int) := by
  unfold bor; rw [or_toNat _ _ _ ha hb]
theorem shl8 (v b : Int) (h0 : 0 ≤ v) (h1 : v < 72057594037927936) (h2 : 0 ≤ b) (h3 : b < 256) : bor .u64 (bshl .u64 v 8) (IntKind.u64.wrap b) = v * 256 + b := by
  obtain ⟨v, rfl⟩ := Int.eq_ofNat_of_zero_le h0
  obtain ⟨b, rfl⟩ := Int.eq_ofNat_of_zero_le h2
  have e : min (8 : Int).toNat (IntKind.u64.bits) = 8 := rfl
  have e1 : bshl .u64 (v : Int) 8 = ((v * 256 : Nat) : Int) := by
    unfold bshl; rw [e, u64 (by omega)]; omega
  have hor : (v * 256 ||| b) = v * 256 + b := by
    have := Nat.shiftLeft_add_eq_or_of_lt (i := 8) (b := b) (by omega) v
    rw [Nat.shiftLeft_eq] at this
    exact this.symm
  have hp : 2 ^ IntKind.u64.bits = 18446744073709551616 := by decide
  rw [e1, u64 (n := (b : Int)) (by omega), bor_nat .u64 _ _ (by rw [hp]; omega) (by rw [hp]; omega), hor, u64 (by omega)]
  omega
theorem take_snoc_getD (l : List UInt8) (k : Nat) (h : k < l.length) : l.take (k + 1) = l.take k ++ [l.getD k 0] := by
  rw [List.take_succ_eq_append_getElem h]; simp [List.getD, h]
theorem words_Get_spec (h : St w0 W w B) (l : List UInt8) (x1 x2 : Int) (big : Bool) (hl : l.length ≤ 140737488355328) (h1 : -9223372036854775808 ≤ x1 ∧ x1 ≤ 9223372036854775807) (h2 : -9223372036854775808 ≤ x2 ∧ x2 ≤ 9223372036854775807) :
    Calls Tryz.prog 68 #[.string (mkB l), .int .i64 x1, .int .i64 x2, .bool big] w fun e w' => e = .returned (.tuple #[.int .u64 (M.get l x1 x2 big).1, .int .i64 (M.get l x1 x2 big).2]) ∧ St w0 W w' B := by
  refine words_Get.calls _ _ _ _ ?_
  unfold words_Get.T
  simp only [mkB_size]
  refine t_if (fun c1 => t_ret ⟨by simp [M.get, c1], h⟩) (fun c1 => ?_)
  refine t_if (fun c2 => t_ret ⟨by simp [M.get, c2], h⟩) (fun c2 => ?_)
  refine t_if (fun c3 => t_ret ⟨by simp [M.get, c1, c2, c3], h⟩) (fun c3 => ?_)
  rw [w64 (n := (l.length : Int) - x2) (by omega)]
  refine t_if (fun c4 => t_ret ⟨by simp [M.get, c1, c2, c3, c4], h⟩) (fun c4 => ?_)
  rw [w64 (n := x1 + x2) (by omega)]
  refine t_need ⟨by omega, by omega, by omega, by omega⟩ ?_
  obtain ⟨at_, rfl⟩ := Int.eq_ofNat_of_zero_le (show 0 ≤ x1 by omega)
  obtain ⟨n, rfl⟩ := Int.eq_ofNat_of_zero_le (show 0 ≤ x2 by omega)
  have hex : (mkB l).extract (at_ : Int).toNat ((at_ : Int) + n).toNat = mkB ((l.drop at_).take n) := by
    rw [mkB_extract, show ((at_ : Int) + n).toNat = at_ + n by omega, Int.toNat_natCast, List.drop_take]; simp
  rw [hex]
  generalize ht : (l.drop at_).take n = t
  have htl : t.length = n := by rw [← ht]; simp; omega
  have hg : M.get l at_ n big = (((M.beN (if big then t else t.reverse) : Nat) : Int), 0) := by
    simp only [M.get, c1, c2, c3, c4, or_self, if_false, Int.toNat_natCast, ht]
  rw [hg]
  -- what is read, the highest byte first
  have body : ∀ (u : List UInt8) (w : World), u.length = n → St w0 W w B → u = (if big then t else t.reverse) → ∀ Ks : Conts,
      (Tr.loop 0 [.U64, .I] (((0 : Int), (0 : Int), ())) fun (r2 : Int × Int × Unit) =>
        .cond (decide (r2.2.1 < n)) (
          .need ((0 : Int) ≤ (8 : Int)) <|
          .need ((0 : Int) ≤ r2.2.1 ∧ r2.2.1 < (↑(ByteArray.size (mkB u)) : Int)) <|
          .jmp 0 [.int .u64 (bor IntKind.u64 (bshl IntKind.u64 r2.1 (8 : Int)) (IntKind.u64.wrap (bt (mkB u) r2.2.1))), .int .i64 (IntKind.i64.wrap (r2.2.1 + (1 : Int)))]) <|
        .ret (.tuple #[.int .u64 r2.1, .int .i64 0])).wp Tryz.prog (fun e w' => e = .returned (.tuple #[.int .u64 ((M.beN (if big then t else t.reverse) : Nat) : Int), .int .i64 0]) ∧ St w0 W w' B) Ks w := by
    intro u w hu h hut Ks
    refine t_loop (fun m st w' => ∃ k : Nat, k ≤ n ∧ m = n - k ∧ st = (((M.beN (u.take k) : Nat) : Int), (k : Int), ()) ∧ St w0 W w' B) n ⟨0, by omega, rfl, by simp [M.beN], h⟩ ?_
    rintro m st w ⟨k, hk, rfl, rfl, h⟩ Ks hJ _
    dsimp only
    refine t_if (fun hc => ?_) (fun hc => ?_)
    · have hlt : k < n := by omega
      have hb := beN_lt (u.take k)
      rw [List.length_take, Nat.min_eq_left (by omega)] at hb
      have hb' : 256 ^ k ≤ 256 ^ 7 := Nat.pow_le_pow_right (by omega) (by omega)
      refine t_need (by omega) (t_need ⟨by omega, by rw [mkB_size]; omega⟩ ?_)
      rw [bt_eq, bl_mkB, Int.toNat_natCast, shl8 _ _ (by omega) (by omega) (by omega) (by have := (u.getD k 0).toNat_lt; omega), w64 (n := (k : Int) + 1) (by omega)]
      refine t_next (hJ (n - (k + 1)) (((M.beN (u.take (k + 1)) : Nat) : Int), ((k + 1 : Nat) : Int), ()) w (by omega) ⟨k + 1, by omega, rfl, rfl, h⟩ |> fun H => ?_)
      have e : M.beN (u.take (k + 1)) = M.beN (u.take k) * 256 + (u.getD k 0).toNat := by
        rw [take_snoc_getD u k (by omega), beN_append]; simp [M.beN]
      rw [e] at H
      simpa [vT, Kd.v, Sc.v] using H
    · have hke : k = n := by omega
      subst hke
      rw [List.take_of_length_le (by omega)]
      exact t_ret ⟨by rw [hut], h⟩
  refine t_bind (t_not (fun hb => ?_) (fun hb => ?_))
  · refine t_callS (x := mkB t.reverse) (words_Turn_spec h t (by omega)) fun w h => t_jmp ⟨(mkB t.reverse, ()), rfl, ?_⟩
    exact body t.reverse w (by simpa using htl) h (by simp [hb]) _
  · refine t_jmp ⟨(mkB t, ()), rfl, ?_⟩
    exact body t w htl h (by simp [hb]) _
end
end Go.Proofs.YthfcneahnldgnaaGreat
