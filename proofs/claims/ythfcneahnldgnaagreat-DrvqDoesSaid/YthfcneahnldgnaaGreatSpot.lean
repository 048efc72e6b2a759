/- spot and desc: places of a ring, descriptors: contracts. -/
import Derived.Test.YthfcneahnldgnaaGreatRef01
namespace Go.Proofs.YthfcneahnldgnaaGreat
open Go Vk
set_option linter.unusedSimpArgs false
set_option linter.unusedVariables false
namespace M
structure Spot where
  at_ : Int
  wrap : Bool
  deriving DecidableEq
def spotCheck (s : Spot) (size : Int) : Int := if size < 1 ∨ 32768 < size then 130 else if s.at_ < 0 ∨ size ≤ s.at_ then 1 else 0
def spotNext (s : Spot) (n size : Int) : Spot × Int :=
  if spotCheck s size ≠ 0 then (⟨0, false⟩, spotCheck s size)
  else if n < 0 ∨ size < n then (⟨0, false⟩, 1)
  else if size ≤ s.at_ + n then (⟨s.at_ + n - size, !s.wrap⟩, 0) else (⟨s.at_ + n, s.wrap⟩, 0)
/-- Of flags 0 to 3. -/
def mark (flags : Int) (wrap used : Bool) : Int := flags + (if wrap then 128 else 0) + (if wrap = used then 32768 else 0)
def says (flags : Int) (wrap : Bool) : Int :=
  let a := flags.toNat / 128 % 2 = 1
  let u := flags.toNat / 32768 % 2 = 1
  if (a ↔ u) ∧ (a ↔ wrap = true) then 2 else if ¬ (a ↔ u) ∧ (a ↔ wrap = true) then 1 else 0
structure Desc where
  addr : Int
  len : Int
  id : Int
  flags : Int
def descOf (l : List UInt8) : Desc := ⟨(beN (l.take 8).reverse : Nat), (beN ((l.drop 8).take 4).reverse : Nat), (beN ((l.drop 12).take 2).reverse : Nat), (beN ((l.drop 14).take 2).reverse : Nat)⟩
end M
abbrev Spot.v (s : M.Spot) : Value := .agg #[.int .i64 s.at_, .bool s.wrap]
abbrev Desc.v (d : M.Desc) : Value := .agg #[.int .u64 d.addr, .int .u32 d.len, .int .i64 d.id, .int .i64 d.flags]
section
variable {w0 w : World} {W : List Nat} {B : List Res}

theorem spot_Check_spec (h : St w0 W w B) (s : M.Spot) (size : Int) :
    Calls Tryz.prog 63 #[Spot.v s, .int .i64 size] w fun e w' => e = .returned (.int .i64 (M.spotCheck s size)) ∧ St w0 W w' B := by
  refine spot_Check.calls (s.at_, s.wrap, ()) size ?_
  unfold spot_Check.T
  refine t_newB h (by simp [Value.oneCell']) fun w b h hb => ?_
  refine t_if (fun c1 => t_ret ⟨by simp [M.spotCheck, c1], h.drop⟩) (fun c1 => ?_)
  refine t_if (fun c2 => t_ret ⟨by simp [M.spotCheck, c2], h.drop⟩) (fun c2 => ?_)
  refine t_ldB h 0 rfl rfl ?_
  refine t_if (fun c3 => t_ret ⟨by simp [M.spotCheck, c1, c2, c3], h.drop⟩) (fun c3 => ?_)
  refine t_ldB h 0 rfl rfl ?_
  refine t_if (fun c4 => t_ret ⟨by simp [M.spotCheck, c1, c2, c3, c4], h.drop⟩) (fun c4 => t_ret ⟨by simp [M.spotCheck, c1, c2, c3, c4], h.drop⟩)

theorem spot_Next_spec (h : St w0 W w B) (s : M.Spot) (n size : Int) :
    Calls Tryz.prog 30 #[Spot.v s, .int .i64 n, .int .i64 size] w fun e w' => e = .returned (.tuple #[Spot.v (M.spotNext s n size).1, .int .i64 (M.spotNext s n size).2]) ∧ St w0 W w' B := by
  refine spot_Next.calls (s.at_, s.wrap, ()) n size ?_
  unfold spot_Next.T
  refine t_newB h (by simp [Value.oneCell']) fun w b h hb => ?_
  refine t_newB h (by simp [Value.oneCell']) fun w b' h hb' => ?_
  refine t_ldB h 1 rfl rfl ?_
  refine t_callS (k := .I) (x := M.spotCheck s size) (spot_Check_spec h s size) fun w h => ?_
  have hd : St w0 W w B := h.drop.drop
  refine t_ifn (fun c1 => ?_) (fun c1 => ?_)
  · refine t_stB h 0 rfl (by simp) (by simp [Value.oneCell']) fun w h => t_ldB h 0 rfl rfl (t_ret ⟨?_, h.drop.drop⟩)
    simp [M.spotNext, c1]
  refine t_if (fun c2 => ?_) (fun c2 => ?_)
  · refine t_stB h 0 rfl (by simp) (by simp [Value.oneCell']) fun w h => t_ldB h 0 rfl rfl (t_ret ⟨?_, h.drop.drop⟩)
    simp [M.spotNext, c1, c2]
  refine t_if (fun c3 => ?_) (fun c3 => ?_)
  · refine t_stB h 0 rfl (by simp) (by simp [Value.oneCell']) fun w h => t_ldB h 0 rfl rfl (t_ret ⟨?_, h.drop.drop⟩)
    simp [M.spotNext, c1, c2, c3]
  have hc : 1 ≤ size ∧ size ≤ 32768 ∧ 0 ≤ s.at_ ∧ s.at_ < size := by
    unfold M.spotCheck at c1
    split at c1
    · simp at c1
    · split at c1
      · simp at c1
      · omega
  refine t_ldB h 1 rfl rfl ?_
  refine t_stB h 1 rfl (by simp) (by simp [Value.oneCell']) fun w h => ?_
  rw [w64 (n := s.at_ + n) (by omega)] at h
  refine t_ldB h 1 rfl rfl ?_
  refine t_if (fun c4 => ?_) (fun c4 => ?_)
  · refine t_ldB h 1 rfl rfl ?_
    refine t_stB h 1 rfl (by simp [setL]) (by simp [Value.oneCell']) fun w h => ?_
    refine t_ldB h 1 rfl rfl ?_
    refine t_stB h 1 rfl (by simp [setL]) (by simp [Value.oneCell']) fun w h => ?_
    refine t_ldB h 1 rfl rfl ?_
    refine t_stB h 0 rfl (by simp [setL]) (by simp [Value.oneCell']) fun w h => ?_
    refine t_ldB h 0 rfl rfl (t_ret ⟨?_, h.drop.drop⟩)
    dsimp only
    rw [w64 (by omega)]
    simp [M.spotNext, c1, c2, c3, c4]
  · refine t_ldB h 1 rfl rfl ?_
    refine t_stB h 0 rfl (by simp [setL]) (by simp [Value.oneCell']) fun w h => ?_
    refine t_ldB h 0 rfl rfl (t_ret ⟨?_, h.drop.drop⟩)
    simp [M.spotNext, c1, c2, c3, c4]

theorem desc_Mark_spec (h : St w0 W w B) (flags : Int) (wrap used : Bool) (hf : 0 ≤ flags ∧ flags < 4) :
    Calls Tryz.prog 29 #[.int .i64 flags, .bool wrap, .bool used] w fun e w' => e = .returned (.int .i64 (M.mark flags wrap used)) ∧ St w0 W w' B := by
  refine desc_Mark.calls flags wrap used ?_
  unfold desc_Mark.T
  have hc : flags = 0 ∨ flags = 1 ∨ flags = 2 ∨ flags = 3 := by omega
  refine t_bind (t_cond (fun h1 => t_jmp ⟨(_, ()), rfl, ?_⟩) (fun h1 => t_jmp ⟨(_, ()), rfl, ?_⟩)) <;> subst h1 <;> refine t_cond (fun h2 => t_ret ⟨?_, h⟩) (fun h2 => t_ret ⟨?_, h⟩) <;> cases used <;> simp at h2 <;> rcases hc with rfl | rfl | rfl | rfl <;> rfl

theorem and_toNat (n : Nat) (a b : Nat) (ha : a < 2 ^ n) (hb : b < 2 ^ n) : (BitVec.ofInt n (a : Int) &&& BitVec.ofInt n (b : Int)).toNat = a &&& b := by
  rw [BitVec.toNat_and, BitVec.ofInt_natCast, BitVec.ofInt_natCast, BitVec.toNat_ofNat, BitVec.toNat_ofNat, Nat.mod_eq_of_lt ha, Nat.mod_eq_of_lt hb]
theorem band_nat (k : IntKind) (a b : Nat) (ha : a < 2 ^ k.bits) (hb : b < 2 ^ k.bits) : band k (a : Int) (b : Int) = k.wrap ((a &&& b : Nat) : Int) := by
  unfold band; rw [and_toNat _ _ _ ha hb]
theorem band_pow (f : Int) (i : Nat) (h : 0 ≤ f ∧ f < 65536) (hi : i ≤ 16) : (band .i64 f ((2 ^ i : Nat) : Int) = 0) ↔ ¬ f.toNat / 2 ^ i % 2 = 1 := by
  obtain ⟨n, rfl⟩ := Int.eq_ofNat_of_zero_le h.1
  have hp : 2 ^ IntKind.i64.bits = 18446744073709551616 := by decide
  have h2 : 2 ^ i ≤ 2 ^ 16 := Nat.pow_le_pow_right (by omega) hi
  have h4 : n &&& 2 ^ i ≤ n := Nat.and_le_left
  rw [band_nat .i64 n (2 ^ i) (by rw [hp]; omega) (by rw [hp]; omega), w64 (by omega), Int.toNat_natCast]
  have h3 : 0 < 2 ^ i := Nat.pow_pos (by omega)
  have hz : (n &&& 2 ^ i = 0) ↔ n.testBit i = false := by
    constructor
    · intro h0
      have := congrArg (fun x => Nat.testBit x i) h0
      simpa [Nat.testBit_and, Nat.testBit_two_pow] using this
    · intro h0
      apply Nat.eq_of_testBit_eq
      intro j
      by_cases hj : i = j
      · subst hj; simp [Nat.testBit_and, h0]
      · simp [Nat.testBit_and, Nat.testBit_two_pow, hj]
  have hz' : ((n &&& 2 ^ i : Nat) : Int) = 0 ↔ n &&& 2 ^ i = 0 := by omega
  rw [hz', hz, Nat.testBit_eq_decide_div_mod_eq]
  simp
theorem band_128 (f : Int) (h : 0 ≤ f ∧ f < 65536) : (band .i64 f 128 = 0) ↔ ¬ f.toNat / 128 % 2 = 1 := band_pow f 7 h (by omega)
theorem band_32768 (f : Int) (h : 0 ≤ f ∧ f < 65536) : (band .i64 f 32768 = 0) ↔ ¬ f.toNat / 32768 % 2 = 1 := band_pow f 15 h (by omega)
theorem desc_says_spec (h : St w0 W w B) (flags : Int) (wrap : Bool) (hf : 0 ≤ flags ∧ flags < 65536) :
    Calls Tryz.prog 69 #[.int .i64 flags, .bool wrap] w fun e w' => e = .returned (.int .i64 (M.says flags wrap)) ∧ St w0 W w' B := by
  refine desc_says.calls flags wrap ?_
  unfold desc_says.T
  have h1 := band_128 flags hf
  have h2 := band_32768 flags hf
  generalize band .i64 flags 128 = a at *
  generalize band .i64 flags 32768 = u at *
  unfold M.says
  by_cases ha : flags.toNat / 128 % 2 = 1 <;> by_cases hu : flags.toNat / 32768 % 2 = 1 <;> simp only [ha, hu, not_true, not_false_iff, iff_true, iff_false] at h1 h2 <;> cases wrap <;> simp [h1, h2, ha, hu, Tr.cond, Tr.wp, h]

theorem desc_Used_spec (h : St w0 W w B) (flags : Int) (wrap : Bool) (hf : 0 ≤ flags ∧ flags < 65536) :
    Calls Tryz.prog 38 #[.int .i64 flags, .bool wrap] w fun e w' => e = .returned (.bool (decide (M.says flags wrap = 2))) ∧ St w0 W w' B := by
  refine desc_Used.calls flags wrap ?_
  unfold desc_Used.T
  exact t_callS (k := .I) (x := M.says flags wrap) (desc_says_spec h flags wrap hf) fun w h => t_ret ⟨rfl, h⟩
theorem desc_get_spec {b : Nat} {T : TypeId} (l : List UInt8) (h : St w0 W w (blkR b [.string (mkB l)] T :: B)) (at_ n : Int) (hl : l.length ≤ 140737488355328) (h1 : -9223372036854775808 ≤ at_ ∧ at_ ≤ 9223372036854775807) (h2 : -9223372036854775808 ≤ n ∧ n ≤ 9223372036854775807) :
    Calls Tryz.prog 67 #[.int .i64 at_, .int .i64 n, .pointer (some ⟨b, 0, none⟩)] w fun e w' => e = .returned (.int .u64 (M.get l at_ n false).1) ∧ St w0 W w' (blkR b [.string (mkB l)] T :: B) := by
  refine desc_Parse_1.calls at_ n ⟨b, 0, none⟩ ?_
  unfold desc_Parse_1.T
  refine t_ldB h 0 rfl rfl ?_
  exact t_callS (k := .tup [.U64, .I]) (x := ((M.get l at_ n false).1, (M.get l at_ n false).2, ())) (words_Get_spec h l at_ n false hl h1 h2) fun w h => t_ret ⟨rfl, h⟩

theorem desc_Parse_spec (l : List UInt8) (h : St w0 W w B) (hl : l.length ≤ 140737488355328) :
    Calls Tryz.prog 37 #[.string (mkB l)] w fun e w' => e = .returned (.tuple (if l.length = 16 then #[Desc.v (M.descOf l), .int .i64 0] else #[Desc.v ⟨0, 0, 0, 0⟩, .int .i64 1])) ∧ St w0 W w' B := by
  refine desc_Parse.calls (mkB l) ?_
  unfold desc_Parse.T
  refine t_newB h (by simp [Value.oneCell']) fun w b h hb => ?_
  refine t_newB h (by simp [Value.oneCell']) fun w b' h hb' => ?_
  refine t_ldB h 1 rfl rfl ?_
  rw [mkB_size]
  refine t_ifn (fun c1 => ?_) (fun c1 => ?_)
  · refine t_stB h 0 rfl (by simp) (by simp [Value.oneCell']) fun w h => t_ldB h 0 rfl rfl (t_ret ⟨?_, h.drop.drop⟩)
    rw [if_neg (by omega)]
  have hl16 : l.length = 16 := by omega
  rw [if_pos hl16]
  have hlt : ∀ (k : Nat) (t : List UInt8), t.length ≤ k → M.beN t < 256 ^ k := fun k t ht => Nat.lt_of_lt_of_le (beN_lt t) (Nat.pow_le_pow_right (by omega) ht)
  have g0 : (M.get l 0 8 false).1 = ((M.beN (l.take 8).reverse : Nat) : Int) := by simp [M.get, hl16]
  have g1 : (M.get l 8 4 false).1 = ((M.beN ((l.drop 8).take 4).reverse : Nat) : Int) := by simp [M.get, hl16]
  have g2 : (M.get l 12 2 false).1 = ((M.beN ((l.drop 12).take 2).reverse : Nat) : Int) := by simp [M.get, hl16]
  have g3 : (M.get l 14 2 false).1 = ((M.beN ((l.drop 14).take 2).reverse : Nat) : Int) := by simp [M.get, hl16]
  replace h := h.swap
  refine t_callvS (k := .U64) (hCC _ rfl) rfl (desc_get_spec l h 0 8 (by omega) (by omega) (by omega)) fun w h => ?_
  refine t_callvS (k := .U64) (hCC _ rfl) rfl (desc_get_spec l h 8 4 (by omega) (by omega) (by omega)) fun w h => ?_
  refine t_callvS (k := .U64) (hCC _ rfl) rfl (desc_get_spec l h 12 2 (by omega) (by omega) (by omega)) fun w h => ?_
  refine t_callvS (k := .U64) (hCC _ rfl) rfl (desc_get_spec l h 14 2 (by omega) (by omega) (by omega)) fun w h => ?_
  refine t_stB h 1 rfl (by simp) (by simp [Value.oneCell']) fun w h => t_ldB h 1 rfl rfl (t_ret ⟨?_, h.drop.drop⟩)
  have e1 := hlt 4 ((l.drop 8).take 4).reverse (by simp; omega)
  have e2 := hlt 2 ((l.drop 12).take 2).reverse (by simp; omega)
  have e3 := hlt 2 ((l.drop 14).take 2).reverse (by simp; omega)
  dsimp only
  rw [g0, g1, g2, g3, IntWalk.u32_in _ (by omega), w64 (by omega), w64 (by omega)]
  rfl

theorem R12_Mark_spec (h : St w0 W w B) (flags : Int) (wrap used : Bool) (hf : 0 ≤ flags ∧ flags < 4) :
    Calls Tryz.prog 35 #[.int .i64 flags, .bool wrap, .bool used] w fun e w' => e = .returned (.int .i64 (M.mark flags wrap used)) ∧ St w0 W w' B := by
  refine aqueductref12_Mark.calls flags wrap used ?_
  unfold aqueductref12_Mark.T
  have hc : flags = 0 ∨ flags = 1 ∨ flags = 2 ∨ flags = 3 := by omega
  have e : IntKind.i64.wrap (IntKind.i64.wrap (flags - IntKind.i64.wrap ((IntKind.i64.wrap (flags.tdiv 128)).tmod 2 * 128)) - IntKind.i64.wrap ((IntKind.i64.wrap (flags.tdiv 32768)).tmod 2 * 32768)) = flags := by
    rcases hc with rfl | rfl | rfl | rfl <;> rfl
  rw [e]
  refine t_need (by omega) (t_need (by omega) (t_need (by omega) (t_need (by omega) ?_)))
  refine t_bind (t_cond (fun h1 => t_jmp ⟨(_, ()), rfl, ?_⟩) (fun h1 => t_jmp ⟨(_, ()), rfl, ?_⟩)) <;> subst h1 <;> cases used <;> refine t_ret ⟨?_, h⟩ <;> rcases hc with rfl | rfl | rfl | rfl <;> rfl

namespace M
def buildB (d : Desc) : List UInt8 := leB d.addr.toNat 8 ++ leB d.len.toNat 4 ++ leB d.id.toNat 2 ++ leB d.flags.toNat 2
end M
theorem put_le (v : Int) (n : Nat) (hn : 1 ≤ n ∧ n ≤ 8) (hv : 0 ≤ v ∧ v < 2 ^ (8 * n)) : M.put v n false = (M.leB v.toNat n, 0) := by
  have : M.may v n = true := by simp only [M.may, decide_eq_true_eq, Int.toNat_natCast]; omega
  simp [M.put, this]
theorem R12_Build_spec (h : St w0 W w B) (d : M.Desc) (h1 : 0 ≤ d.addr ∧ d.addr < 18446744073709551616) (h2 : 0 ≤ d.len ∧ d.len < 4294967296) (h3 : 0 ≤ d.id ∧ d.id < 65536) (h4 : 0 ≤ d.flags ∧ d.flags < 65536) :
    Calls Tryz.prog 34 #[Desc.v d] w fun e w' => e = .returned (.tuple #[.string (mkB (M.buildB d)), .int .i64 0]) ∧ St w0 W w' B := by
  refine aqueductref12_Build.calls (d.addr, d.len, d.id, d.flags, ()) ?_
  unfold aqueductref12_Build.T
  dsimp only
  refine t_newB h (by simp [Value.oneCell']) fun w b h hb => ?_
  refine t_ldB h 0 rfl rfl (t_no (by omega) ?_)
  refine t_ldB h 0 rfl rfl (t_no (by omega) ?_)
  refine t_ldB h 0 rfl rfl (t_no (by omega) ?_)
  refine t_ldB h 0 rfl rfl (t_no (by omega) ?_)
  have p1 : M.put d.addr 8 false = (M.leB d.addr.toNat 8, 0) := put_le d.addr 8 (by omega) (by omega)
  have p2 : M.put d.len 4 false = (M.leB d.len.toNat 4, 0) := put_le d.len 4 (by omega) (by omega)
  have p3 : M.put d.id 2 false = (M.leB d.id.toNat 2, 0) := put_le d.id 2 (by omega) (by omega)
  have p4 : M.put d.flags 2 false = (M.leB d.flags.toNat 2, 0) := put_le d.flags 2 (by omega) (by omega)
  refine t_ldB h 0 rfl rfl ?_
  have s1 := R1_Put_spec h d.addr 8 false (by omega) (by omega)
  rw [p1] at s1
  refine t_callS (k := .tup [.S, .I]) (x := (mkB (M.leB d.addr.toNat 8), 0, ())) s1 fun w h => ?_
  refine t_ldB h 0 rfl rfl ?_
  dsimp only
  rw [u64 (n := d.len) (by omega)]
  have s2 := R1_Put_spec h d.len 4 false (by omega) (by omega)
  rw [p2] at s2
  refine t_callS (k := .tup [.S, .I]) (x := (mkB (M.leB d.len.toNat 4), 0, ())) s2 fun w h => ?_
  refine t_ldB h 0 rfl rfl ?_
  dsimp only
  rw [u64 (n := d.id) (by omega)]
  have s3 := R1_Put_spec h d.id 2 false (by omega) (by omega)
  rw [p3] at s3
  refine t_callS (k := .tup [.S, .I]) (x := (mkB (M.leB d.id.toNat 2), 0, ())) s3 fun w h => ?_
  refine t_ldB h 0 rfl rfl ?_
  dsimp only
  rw [u64 (n := d.flags) (by omega)]
  have s4 := R1_Put_spec h d.flags 2 false (by omega) (by omega)
  rw [p4] at s4
  refine t_callS (k := .tup [.S, .I]) (x := (mkB (M.leB d.flags.toNat 2), 0, ())) s4 fun w h => ?_
  dsimp only
  refine t_need (by simp) (t_need (by simp [mkB_append]) (t_need (by simp [mkB_append]) (t_ret ⟨?_, h.drop⟩)))
  simp only [mkB_append]
  rfl
end
end Go.Proofs.YthfcneahnldgnaaGreat
