/- spot: Gap, Need, events; the reference's. -/
import Derived.Test.YthfcneahnldgnaaGreatGap
import Derived.Test.YthfcneahnldgnaaGreatDrvqFull
import Derived.Test.YthfcneahnldgnaaGreatVkEq
namespace Go.Proofs.YthfcneahnldgnaaGreat
open Go Vk
set_option linter.unusedSimpArgs false
set_option linter.unusedVariables false
namespace M
structure Ev where
  off : Int
  wrap : Bool
  fl : Int
def leI (t : List UInt8) : Int := (beN t.reverse : Nat)
def evOf (l : List UInt8) : Ev := ⟨leI (l.take 2) % 32768, decide (32768 ≤ leI (l.take 2)), leI ((l.drop 2).take 2)⟩
def Ev.ok (e : Ev) : Prop := 0 ≤ e.off ∧ e.off < 32768 ∧ 0 ≤ e.fl ∧ e.fl < 65536
instance (e : Ev) : Decidable e.ok := inferInstanceAs (Decidable (_ ∧ _ ∧ _ ∧ _))
def evB (e : Ev) : List UInt8 := leB (e.off + if e.wrap then 32768 else 0).toNat 2 ++ leB e.fl.toNat 2
end M
abbrev Ev.v (e : M.Ev) : Value := .agg #[.int .i64 e.off, .bool e.wrap, .int .i64 e.fl]
theorem leI_lt (t : List UInt8) (k : Nat) (h : t.length ≤ k) (hk : k ≤ 2) : 0 ≤ M.leI t ∧ M.leI t < 65536 := by
  have := Nat.lt_of_lt_of_le (beN_lt t.reverse) (Nat.pow_le_pow_right (by omega) (show t.reverse.length ≤ 2 by simp; omega))
  unfold M.leI; omega
theorem evOf_lt (l : List UInt8) : (0 ≤ (M.evOf l).off ∧ (M.evOf l).off < 32768) ∧ 0 ≤ (M.evOf l).fl ∧ (M.evOf l).fl < 65536 := by
  have h2 := leI_lt ((l.drop 2).take 2) 2 (by simp; omega) (by omega)
  exact ⟨⟨by unfold M.evOf; dsimp only; omega, by unfold M.evOf; dsimp only; omega⟩, h2⟩
theorem bandn_round (x : Int) (h : 0 ≤ x ∧ x < 65536) : bandn .i64 x 32768 = x % 32768 := by
  obtain ⟨n, rfl⟩ := Int.eq_ofNat_of_zero_le h.1
  unfold bandn
  have e : (BitVec.ofInt IntKind.i64.bits (n : Int) &&& ~~~ BitVec.ofInt IntKind.i64.bits 32768).toNat = n % 32768 := by
    show (BitVec.ofInt 64 (n : Int) &&& ~~~ BitVec.ofInt 64 32768).toNat = n % 32768
    rw [BitVec.toNat_and, BitVec.ofInt_natCast, BitVec.toNat_ofNat, Nat.mod_eq_of_lt (by omega)]
    have e2 : (~~~ BitVec.ofInt 64 32768).toNat = 2 ^ 64 - (2 ^ 15 + 1) := by decide
    rw [e2]
    apply Nat.eq_of_testBit_eq
    intro i
    rw [Nat.testBit_and, Nat.testBit_two_pow_sub_succ (by decide), Nat.testBit_two_pow, show 32768 = 2 ^ 15 from rfl, Nat.testBit_mod_two_pow]
    by_cases hi : i < 15
    · simp [hi, show ¬ 15 = i by omega, show i < 64 by omega]
    · by_cases h15 : 15 = i
      · subst h15; simp
      · have : n.testBit i = false := Nat.testBit_lt_two_pow (Nat.lt_of_lt_of_le (show n < 2 ^ 16 by omega) (Nat.pow_le_pow_right (by omega) (by omega)))
        simp [this]
  rw [e, w64 (by omega)]
  rfl
theorem band_powU (f : Int) (i : Nat) (h : 0 ≤ f ∧ f < 65536) (hi : i ≤ 16) : (band .u64 f ((2 ^ i : Nat) : Int) = 0) ↔ ¬ f.toNat / 2 ^ i % 2 = 1 := by
  obtain ⟨n, rfl⟩ := Int.eq_ofNat_of_zero_le h.1
  have hp : 2 ^ IntKind.u64.bits = 18446744073709551616 := by decide
  have h2 : 2 ^ i ≤ 2 ^ 16 := Nat.pow_le_pow_right (by omega) hi
  have h4 : n &&& 2 ^ i ≤ n := Nat.and_le_left
  rw [band_nat .u64 n (2 ^ i) (by rw [hp]; omega) (by rw [hp]; omega), u64 (by omega), Int.toNat_natCast]
  have hz : (n &&& 2 ^ i = 0) ↔ n.testBit i = false := by
    constructor
    · intro h0
      have := congrArg (fun x => Nat.testBit x i) h0
      simpa [Nat.testBit_and, Nat.testBit_two_pow] using this
    · intro h0
      apply Nat.eq_of_testBit_eq
      intro j
      by_cases hj : i = j
      · subst hj; simp [Nat.testBit_and, h0]
      · simp [Nat.testBit_and, Nat.testBit_two_pow, hj]
  have hz' : ((n &&& 2 ^ i : Nat) : Int) = 0 ↔ n &&& 2 ^ i = 0 := by omega
  rw [hz', hz, Nat.testBit_eq_decide_div_mod_eq]
  simp
theorem band_round (x : Int) (h : 0 ≤ x ∧ x < 65536) : (band .u64 x 32768 = 0) ↔ ¬ 32768 ≤ x := by
  have := band_powU x 15 h (by omega)
  rw [show ((2 ^ 15 : Nat) : Int) = 32768 from rfl] at this
  rw [this, show (2 : Nat) ^ 15 = 32768 from rfl]
  omega
theorem bor_round (x : Int) (h : 0 ≤ x ∧ x < 32768) : bor .i64 x 32768 = x + 32768 := by
  obtain ⟨n, rfl⟩ := Int.eq_ofNat_of_zero_le h.1
  have hp : 2 ^ IntKind.i64.bits = 18446744073709551616 := by decide
  have e := bor_nat .i64 n 32768 (by rw [hp]; omega) (by rw [hp]; omega)
  rw [show ((32768 : Nat) : Int) = 32768 from rfl] at e
  have hor : (n ||| 32768) = n + 32768 := by
    have := Nat.shiftLeft_add_eq_or_of_lt (i := 15) (b := n) (by omega) 1
    rw [Nat.shiftLeft_eq] at this
    have e3 : 1 * 2 ^ 15 = 32768 := rfl
    rw [e3] at this
    rw [Nat.or_comm]; omega
  rw [e, hor, w64 (by omega)]; omega
theorem get0 {l : List UInt8} (h : l.length = 4) : M.get l 0 2 false = (M.leI (l.take 2), 0) := by simp [M.get, h, M.leI]
theorem get2 {l : List UInt8} (h : l.length = 4) : M.get l 2 2 false = (M.leI ((l.drop 2).take 2), 0) := by simp [M.get, h, M.leI]
section
variable {w0 w : World} {W : List Nat} {B : List Res}
theorem spot_Gap_con (s t : M.Spot) (size : Int) : Con Tryz.prog NoRo 71 #[Spot.v s, Spot.v t, .int .i64 size] (.tup [.I, .I]) [] ((M.spotGap s t size).1, (M.spotGap s t size).2, ()) [] := by
  intro w0 W w B _ h
  refine spot_Gap.calls (s.at_, s.wrap, ()) (t.at_, t.wrap, ()) size ?_
  unfold spot_Gap.T
  refine t_newB h (by simp [Value.oneCell']) fun w ab h hab => ?_
  refine t_newB h (by simp [Value.oneCell']) fun w bb h hbb => ?_
  refine t_ldB h 1 rfl rfl (t_ldB h 0 rfl rfl ?_)
  refine t_newB h (by simp [Value.oneCell']) fun w lb h hlb => ?_
  dsimp only at h
  refine t_loop (fun m st w' => ∃ k : Nat, k ≤ 2 ∧ m = 2 - k ∧ st = ((k : Int), ()) ∧ (1 ≤ k → M.spotCheck s size = 0) ∧ (2 ≤ k → M.spotCheck t size = 0) ∧ St w0 W w' (blkR lb [.int .i64 s.at_, .bool s.wrap, .int .i64 t.at_, .bool t.wrap] 44 :: blkR bb [.int .i64 t.at_, .bool t.wrap] 44 :: blkR ab [.int .i64 s.at_, .bool s.wrap] 44 :: B)) 2 ⟨0, by omega, rfl, rfl, by omega, by omega, h⟩ ?_
  clear h
  rintro m st' w ⟨k, hk, rfl, rfl, h1, h2, h⟩ Ks hJ _
  dsimp only
  have hk3 : k = 0 ∨ k = 1 ∨ k = 2 := by omega
  rcases hk3 with rfl | rfl | rfl
  · repeat (first
      | refine t_tickS h fun w h => ?_
      | refine t_keepN ?_
      | refine t_ldB h 0 rfl rfl ?_
      | refine t_ldB h 1 rfl rfl ?_
      | refine t_ldB h 2 rfl rfl ?_
      | refine t_ldB h 3 rfl rfl ?_
      | refine t_ldB h 4 rfl rfl ?_
      | refine t_ldB h 5 rfl rfl ?_
      | refine t_ldB h 6 rfl rfl ?_
      | refine t_ldB h 7 rfl rfl ?_
      | refine t_ldB h 8 rfl rfl ?_
      | refine t_ldB h 9 rfl rfl ?_
      | refine t_ldO h 0 rfl rfl rfl ?_
      | refine t_ldO h 1 rfl rfl rfl ?_
      | refine t_ldO h 2 rfl rfl rfl ?_
      | refine t_ldO h 3 rfl rfl rfl ?_
      | refine t_ldO h 4 rfl rfl rfl ?_
      | refine t_ldO h 5 rfl rfl rfl ?_
      | refine t_ldO h 6 rfl rfl rfl ?_
      | refine t_ldO h 7 rfl rfl rfl ?_
      | refine t_ldO h 8 rfl rfl rfl ?_
      | refine t_ldO h 9 rfl rfl rfl ?_
      | refine t_keepB h 0 rfl rfl ?_
      | refine t_keepB h 1 rfl rfl ?_
      | refine t_keepB h 2 rfl rfl ?_
      | refine t_keepB h 3 rfl rfl ?_
      | refine t_keepB h 4 rfl rfl ?_
      | refine t_keepB h 5 rfl rfl ?_
      | refine t_keepB h 6 rfl rfl ?_
      | refine t_keepB h 7 rfl rfl ?_
      | refine t_keepB h 8 rfl rfl ?_
      | refine t_keepB h 9 rfl rfl ?_
      | (refine t_stB h 0 rfl (by simp [setL]) (by simp [Value.oneCell']) fun w h => ?_; try dsimp only [List.set, setL, List.eraseIdx, List.cons_append, List.nil_append, List.append_nil, Nat.zero_add, Nat.reduceAdd, Sl.v] at h)
      | (refine t_stB h 1 rfl (by simp [setL]) (by simp [Value.oneCell']) fun w h => ?_; try dsimp only [List.set, setL, List.eraseIdx, List.cons_append, List.nil_append, List.append_nil, Nat.zero_add, Nat.reduceAdd, Sl.v] at h)
      | (refine t_stB h 2 rfl (by simp [setL]) (by simp [Value.oneCell']) fun w h => ?_; try dsimp only [List.set, setL, List.eraseIdx, List.cons_append, List.nil_append, List.append_nil, Nat.zero_add, Nat.reduceAdd, Sl.v] at h)
      | (refine t_stB h 3 rfl (by simp [setL]) (by simp [Value.oneCell']) fun w h => ?_; try dsimp only [List.set, setL, List.eraseIdx, List.cons_append, List.nil_append, List.append_nil, Nat.zero_add, Nat.reduceAdd, Sl.v] at h)
      | (refine t_stB h 4 rfl (by simp [setL]) (by simp [Value.oneCell']) fun w h => ?_; try dsimp only [List.set, setL, List.eraseIdx, List.cons_append, List.nil_append, List.append_nil, Nat.zero_add, Nat.reduceAdd, Sl.v] at h)
      | (refine t_stB h 5 rfl (by simp [setL]) (by simp [Value.oneCell']) fun w h => ?_; try dsimp only [List.set, setL, List.eraseIdx, List.cons_append, List.nil_append, List.append_nil, Nat.zero_add, Nat.reduceAdd, Sl.v] at h)
      | (refine t_stB h 6 rfl (by simp [setL]) (by simp [Value.oneCell']) fun w h => ?_; try dsimp only [List.set, setL, List.eraseIdx, List.cons_append, List.nil_append, List.append_nil, Nat.zero_add, Nat.reduceAdd, Sl.v] at h)
      | (refine t_stB h 7 rfl (by simp [setL]) (by simp [Value.oneCell']) fun w h => ?_; try dsimp only [List.set, setL, List.eraseIdx, List.cons_append, List.nil_append, List.append_nil, Nat.zero_add, Nat.reduceAdd, Sl.v] at h)
      | (refine t_stB h 8 rfl (by simp [setL]) (by simp [Value.oneCell']) fun w h => ?_; try dsimp only [List.set, setL, List.eraseIdx, List.cons_append, List.nil_append, List.append_nil, Nat.zero_add, Nat.reduceAdd, Sl.v] at h)
      | (refine t_stB h 9 rfl (by simp [setL]) (by simp [Value.oneCell']) fun w h => ?_; try dsimp only [List.set, setL, List.eraseIdx, List.cons_append, List.nil_append, List.append_nil, Nat.zero_add, Nat.reduceAdd, Sl.v] at h)
      | refine t_newB h (by simp [Value.oneCell']) fun w b h hb => ?_
      | refine t_nil ?_
      | refine t_true rfl ?_
      | refine t_false rfl ?_
      | refine t_yes rfl ?_
      | refine t_nyes rfl ?_
      | refine t_no (by decide) ?_
      | refine t_nno (by decide) ?_
      | refine t_need (by decide) ?_)
    try dsimp only [List.set, setL, List.eraseIdx, List.cons_append, List.nil_append, List.append_nil, Nat.zero_add, Nat.reduceAdd, Sl.v] at h
    refine t_callS (k := .I) (x := M.spotCheck s size) (spot_Check_spec h s size) fun w h => ?_
    refine t_ifn (fun c1 => t_ret ⟨by simp [M.spotGap, c1]; rfl, h.drop.drop.drop.drop⟩) (fun c1 => ?_)
    exact t_next (hJ 1 ((1 : Int), ()) w (by omega) ⟨1, by omega, rfl, rfl, fun _ => c1, by omega, h.drop⟩)
  · repeat (first
      | refine t_tickS h fun w h => ?_
      | refine t_keepN ?_
      | refine t_ldB h 0 rfl rfl ?_
      | refine t_ldB h 1 rfl rfl ?_
      | refine t_ldB h 2 rfl rfl ?_
      | refine t_ldB h 3 rfl rfl ?_
      | refine t_ldB h 4 rfl rfl ?_
      | refine t_ldB h 5 rfl rfl ?_
      | refine t_ldB h 6 rfl rfl ?_
      | refine t_ldB h 7 rfl rfl ?_
      | refine t_ldB h 8 rfl rfl ?_
      | refine t_ldB h 9 rfl rfl ?_
      | refine t_ldO h 0 rfl rfl rfl ?_
      | refine t_ldO h 1 rfl rfl rfl ?_
      | refine t_ldO h 2 rfl rfl rfl ?_
      | refine t_ldO h 3 rfl rfl rfl ?_
      | refine t_ldO h 4 rfl rfl rfl ?_
      | refine t_ldO h 5 rfl rfl rfl ?_
      | refine t_ldO h 6 rfl rfl rfl ?_
      | refine t_ldO h 7 rfl rfl rfl ?_
      | refine t_ldO h 8 rfl rfl rfl ?_
      | refine t_ldO h 9 rfl rfl rfl ?_
      | refine t_keepB h 0 rfl rfl ?_
      | refine t_keepB h 1 rfl rfl ?_
      | refine t_keepB h 2 rfl rfl ?_
      | refine t_keepB h 3 rfl rfl ?_
      | refine t_keepB h 4 rfl rfl ?_
      | refine t_keepB h 5 rfl rfl ?_
      | refine t_keepB h 6 rfl rfl ?_
      | refine t_keepB h 7 rfl rfl ?_
      | refine t_keepB h 8 rfl rfl ?_
      | refine t_keepB h 9 rfl rfl ?_
      | (refine t_stB h 0 rfl (by simp [setL]) (by simp [Value.oneCell']) fun w h => ?_; try dsimp only [List.set, setL, List.eraseIdx, List.cons_append, List.nil_append, List.append_nil, Nat.zero_add, Nat.reduceAdd, Sl.v] at h)
      | (refine t_stB h 1 rfl (by simp [setL]) (by simp [Value.oneCell']) fun w h => ?_; try dsimp only [List.set, setL, List.eraseIdx, List.cons_append, List.nil_append, List.append_nil, Nat.zero_add, Nat.reduceAdd, Sl.v] at h)
      | (refine t_stB h 2 rfl (by simp [setL]) (by simp [Value.oneCell']) fun w h => ?_; try dsimp only [List.set, setL, List.eraseIdx, List.cons_append, List.nil_append, List.append_nil, Nat.zero_add, Nat.reduceAdd, Sl.v] at h)
      | (refine t_stB h 3 rfl (by simp [setL]) (by simp [Value.oneCell']) fun w h => ?_; try dsimp only [List.set, setL, List.eraseIdx, List.cons_append, List.nil_append, List.append_nil, Nat.zero_add, Nat.reduceAdd, Sl.v] at h)
      | (refine t_stB h 4 rfl (by simp [setL]) (by simp [Value.oneCell']) fun w h => ?_; try dsimp only [List.set, setL, List.eraseIdx, List.cons_append, List.nil_append, List.append_nil, Nat.zero_add, Nat.reduceAdd, Sl.v] at h)
      | (refine t_stB h 5 rfl (by simp [setL]) (by simp [Value.oneCell']) fun w h => ?_; try dsimp only [List.set, setL, List.eraseIdx, List.cons_append, List.nil_append, List.append_nil, Nat.zero_add, Nat.reduceAdd, Sl.v] at h)
      | (refine t_stB h 6 rfl (by simp [setL]) (by simp [Value.oneCell']) fun w h => ?_; try dsimp only [List.set, setL, List.eraseIdx, List.cons_append, List.nil_append, List.append_nil, Nat.zero_add, Nat.reduceAdd, Sl.v] at h)
      | (refine t_stB h 7 rfl (by simp [setL]) (by simp [Value.oneCell']) fun w h => ?_; try dsimp only [List.set, setL, List.eraseIdx, List.cons_append, List.nil_append, List.append_nil, Nat.zero_add, Nat.reduceAdd, Sl.v] at h)
      | (refine t_stB h 8 rfl (by simp [setL]) (by simp [Value.oneCell']) fun w h => ?_; try dsimp only [List.set, setL, List.eraseIdx, List.cons_append, List.nil_append, List.append_nil, Nat.zero_add, Nat.reduceAdd, Sl.v] at h)
      | (refine t_stB h 9 rfl (by simp [setL]) (by simp [Value.oneCell']) fun w h => ?_; try dsimp only [List.set, setL, List.eraseIdx, List.cons_append, List.nil_append, List.append_nil, Nat.zero_add, Nat.reduceAdd, Sl.v] at h)
      | refine t_newB h (by simp [Value.oneCell']) fun w b h hb => ?_
      | refine t_nil ?_
      | refine t_true rfl ?_
      | refine t_false rfl ?_
      | refine t_yes rfl ?_
      | refine t_nyes rfl ?_
      | refine t_no (by decide) ?_
      | refine t_nno (by decide) ?_
      | refine t_need (by decide) ?_)
    try dsimp only [List.set, setL, List.eraseIdx, List.cons_append, List.nil_append, List.append_nil, Nat.zero_add, Nat.reduceAdd, Sl.v] at h
    refine t_callS (k := .I) (x := M.spotCheck t size) (spot_Check_spec h t size) fun w h => ?_
    have h1 := h1 (by omega)
    refine t_ifn (fun c1 => t_ret ⟨by simp [M.spotGap, c1, h1]; rfl, h.drop.drop.drop.drop⟩) (fun c1 => ?_)
    exact t_next (hJ 0 ((2 : Int), ()) w (by omega) ⟨2, by omega, rfl, rfl, fun _ => h1, fun _ => c1, h.drop⟩)
  · repeat (first
      | refine t_tickS h fun w h => ?_
      | refine t_keepN ?_
      | refine t_ldB h 0 rfl rfl ?_
      | refine t_ldB h 1 rfl rfl ?_
      | refine t_ldB h 2 rfl rfl ?_
      | refine t_ldB h 3 rfl rfl ?_
      | refine t_ldB h 4 rfl rfl ?_
      | refine t_ldB h 5 rfl rfl ?_
      | refine t_ldB h 6 rfl rfl ?_
      | refine t_ldB h 7 rfl rfl ?_
      | refine t_ldB h 8 rfl rfl ?_
      | refine t_ldB h 9 rfl rfl ?_
      | refine t_ldO h 0 rfl rfl rfl ?_
      | refine t_ldO h 1 rfl rfl rfl ?_
      | refine t_ldO h 2 rfl rfl rfl ?_
      | refine t_ldO h 3 rfl rfl rfl ?_
      | refine t_ldO h 4 rfl rfl rfl ?_
      | refine t_ldO h 5 rfl rfl rfl ?_
      | refine t_ldO h 6 rfl rfl rfl ?_
      | refine t_ldO h 7 rfl rfl rfl ?_
      | refine t_ldO h 8 rfl rfl rfl ?_
      | refine t_ldO h 9 rfl rfl rfl ?_
      | refine t_keepB h 0 rfl rfl ?_
      | refine t_keepB h 1 rfl rfl ?_
      | refine t_keepB h 2 rfl rfl ?_
      | refine t_keepB h 3 rfl rfl ?_
      | refine t_keepB h 4 rfl rfl ?_
      | refine t_keepB h 5 rfl rfl ?_
      | refine t_keepB h 6 rfl rfl ?_
      | refine t_keepB h 7 rfl rfl ?_
      | refine t_keepB h 8 rfl rfl ?_
      | refine t_keepB h 9 rfl rfl ?_
      | (refine t_stB h 0 rfl (by simp [setL]) (by simp [Value.oneCell']) fun w h => ?_; try dsimp only [List.set, setL, List.eraseIdx, List.cons_append, List.nil_append, List.append_nil, Nat.zero_add, Nat.reduceAdd, Sl.v] at h)
      | (refine t_stB h 1 rfl (by simp [setL]) (by simp [Value.oneCell']) fun w h => ?_; try dsimp only [List.set, setL, List.eraseIdx, List.cons_append, List.nil_append, List.append_nil, Nat.zero_add, Nat.reduceAdd, Sl.v] at h)
      | (refine t_stB h 2 rfl (by simp [setL]) (by simp [Value.oneCell']) fun w h => ?_; try dsimp only [List.set, setL, List.eraseIdx, List.cons_append, List.nil_append, List.append_nil, Nat.zero_add, Nat.reduceAdd, Sl.v] at h)
      | (refine t_stB h 3 rfl (by simp [setL]) (by simp [Value.oneCell']) fun w h => ?_; try dsimp only [List.set, setL, List.eraseIdx, List.cons_append, List.nil_append, List.append_nil, Nat.zero_add, Nat.reduceAdd, Sl.v] at h)
      | (refine t_stB h 4 rfl (by simp [setL]) (by simp [Value.oneCell']) fun w h => ?_; try dsimp only [List.set, setL, List.eraseIdx, List.cons_append, List.nil_append, List.append_nil, Nat.zero_add, Nat.reduceAdd, Sl.v] at h)
      | (refine t_stB h 5 rfl (by simp [setL]) (by simp [Value.oneCell']) fun w h => ?_; try dsimp only [List.set, setL, List.eraseIdx, List.cons_append, List.nil_append, List.append_nil, Nat.zero_add, Nat.reduceAdd, Sl.v] at h)
      | (refine t_stB h 6 rfl (by simp [setL]) (by simp [Value.oneCell']) fun w h => ?_; try dsimp only [List.set, setL, List.eraseIdx, List.cons_append, List.nil_append, List.append_nil, Nat.zero_add, Nat.reduceAdd, Sl.v] at h)
      | (refine t_stB h 7 rfl (by simp [setL]) (by simp [Value.oneCell']) fun w h => ?_; try dsimp only [List.set, setL, List.eraseIdx, List.cons_append, List.nil_append, List.append_nil, Nat.zero_add, Nat.reduceAdd, Sl.v] at h)
      | (refine t_stB h 8 rfl (by simp [setL]) (by simp [Value.oneCell']) fun w h => ?_; try dsimp only [List.set, setL, List.eraseIdx, List.cons_append, List.nil_append, List.append_nil, Nat.zero_add, Nat.reduceAdd, Sl.v] at h)
      | (refine t_stB h 9 rfl (by simp [setL]) (by simp [Value.oneCell']) fun w h => ?_; try dsimp only [List.set, setL, List.eraseIdx, List.cons_append, List.nil_append, List.append_nil, Nat.zero_add, Nat.reduceAdd, Sl.v] at h)
      | refine t_newB h (by simp [Value.oneCell']) fun w b h hb => ?_
      | refine t_nil ?_
      | refine t_true rfl ?_
      | refine t_false rfl ?_
      | refine t_yes rfl ?_
      | refine t_nyes rfl ?_
      | refine t_no (by decide) ?_
      | refine t_nno (by decide) ?_
      | refine t_need (by decide) ?_)
    try dsimp only [List.set, setL, List.eraseIdx, List.cons_append, List.nil_append, List.append_nil, Nat.zero_add, Nat.reduceAdd, Sl.v] at h
    have h1 := h1 (by omega)
    have h2 := h2 (by omega)
    have ha := spotCheck_size h1
    have hb := spotCheck_size h2
    have hg := spotGap_ok ha.1 ha.2 hb.2
    have hgr := gapN_range ha.1.1 ha.2 hb.2
    unfold M.Spot.In at ha hb
    rw [w64 (n := t.at_ - s.at_) (by omega)]
    rw [hg]
    refine t_bindQ (fun x w' => x = (t.at_ - s.at_ + (if s.wrap = t.wrap then 0 else size), ()) ∧ w' = w) ?_ ?_
    · repeat (first
        | refine t_tickS h fun w h => ?_
        | refine t_keepN ?_
        | refine t_ldB h 0 rfl rfl ?_
        | refine t_ldB h 1 rfl rfl ?_
        | refine t_ldB h 2 rfl rfl ?_
        | refine t_ldB h 3 rfl rfl ?_
        | refine t_ldB h 4 rfl rfl ?_
        | refine t_ldB h 5 rfl rfl ?_
        | refine t_ldB h 6 rfl rfl ?_
        | refine t_ldB h 7 rfl rfl ?_
        | refine t_ldB h 8 rfl rfl ?_
        | refine t_ldB h 9 rfl rfl ?_
        | refine t_ldO h 0 rfl rfl rfl ?_
        | refine t_ldO h 1 rfl rfl rfl ?_
        | refine t_ldO h 2 rfl rfl rfl ?_
        | refine t_ldO h 3 rfl rfl rfl ?_
        | refine t_ldO h 4 rfl rfl rfl ?_
        | refine t_ldO h 5 rfl rfl rfl ?_
        | refine t_ldO h 6 rfl rfl rfl ?_
        | refine t_ldO h 7 rfl rfl rfl ?_
        | refine t_ldO h 8 rfl rfl rfl ?_
        | refine t_ldO h 9 rfl rfl rfl ?_
        | refine t_keepB h 0 rfl rfl ?_
        | refine t_keepB h 1 rfl rfl ?_
        | refine t_keepB h 2 rfl rfl ?_
        | refine t_keepB h 3 rfl rfl ?_
        | refine t_keepB h 4 rfl rfl ?_
        | refine t_keepB h 5 rfl rfl ?_
        | refine t_keepB h 6 rfl rfl ?_
        | refine t_keepB h 7 rfl rfl ?_
        | refine t_keepB h 8 rfl rfl ?_
        | refine t_keepB h 9 rfl rfl ?_
        | (refine t_stB h 0 rfl (by simp [setL]) (by simp [Value.oneCell']) fun w h => ?_; try dsimp only [List.set, setL, List.eraseIdx, List.cons_append, List.nil_append, List.append_nil, Nat.zero_add, Nat.reduceAdd, Sl.v] at h)
        | (refine t_stB h 1 rfl (by simp [setL]) (by simp [Value.oneCell']) fun w h => ?_; try dsimp only [List.set, setL, List.eraseIdx, List.cons_append, List.nil_append, List.append_nil, Nat.zero_add, Nat.reduceAdd, Sl.v] at h)
        | (refine t_stB h 2 rfl (by simp [setL]) (by simp [Value.oneCell']) fun w h => ?_; try dsimp only [List.set, setL, List.eraseIdx, List.cons_append, List.nil_append, List.append_nil, Nat.zero_add, Nat.reduceAdd, Sl.v] at h)
        | (refine t_stB h 3 rfl (by simp [setL]) (by simp [Value.oneCell']) fun w h => ?_; try dsimp only [List.set, setL, List.eraseIdx, List.cons_append, List.nil_append, List.append_nil, Nat.zero_add, Nat.reduceAdd, Sl.v] at h)
        | (refine t_stB h 4 rfl (by simp [setL]) (by simp [Value.oneCell']) fun w h => ?_; try dsimp only [List.set, setL, List.eraseIdx, List.cons_append, List.nil_append, List.append_nil, Nat.zero_add, Nat.reduceAdd, Sl.v] at h)
        | (refine t_stB h 5 rfl (by simp [setL]) (by simp [Value.oneCell']) fun w h => ?_; try dsimp only [List.set, setL, List.eraseIdx, List.cons_append, List.nil_append, List.append_nil, Nat.zero_add, Nat.reduceAdd, Sl.v] at h)
        | (refine t_stB h 6 rfl (by simp [setL]) (by simp [Value.oneCell']) fun w h => ?_; try dsimp only [List.set, setL, List.eraseIdx, List.cons_append, List.nil_append, List.append_nil, Nat.zero_add, Nat.reduceAdd, Sl.v] at h)
        | (refine t_stB h 7 rfl (by simp [setL]) (by simp [Value.oneCell']) fun w h => ?_; try dsimp only [List.set, setL, List.eraseIdx, List.cons_append, List.nil_append, List.append_nil, Nat.zero_add, Nat.reduceAdd, Sl.v] at h)
        | (refine t_stB h 8 rfl (by simp [setL]) (by simp [Value.oneCell']) fun w h => ?_; try dsimp only [List.set, setL, List.eraseIdx, List.cons_append, List.nil_append, List.append_nil, Nat.zero_add, Nat.reduceAdd, Sl.v] at h)
        | (refine t_stB h 9 rfl (by simp [setL]) (by simp [Value.oneCell']) fun w h => ?_; try dsimp only [List.set, setL, List.eraseIdx, List.cons_append, List.nil_append, List.append_nil, Nat.zero_add, Nat.reduceAdd, Sl.v] at h)
        | refine t_newB h (by simp [Value.oneCell']) fun w b h hb => ?_
        | refine t_nil ?_
        | refine t_true rfl ?_
        | refine t_false rfl ?_
        | refine t_yes rfl ?_
        | refine t_nyes rfl ?_
        | refine t_no (by decide) ?_
        | refine t_nno (by decide) ?_
        | refine t_need (by decide) ?_)
      try dsimp only [List.set, setL, List.eraseIdx, List.cons_append, List.nil_append, List.append_nil, Nat.zero_add, Nat.reduceAdd, Sl.v] at h
      refine t_cond (fun c => t_jmp ⟨(IntKind.i64.wrap (t.at_ - s.at_ + size), ()), rfl, ?_, rfl⟩) (fun c => t_jmp ⟨(t.at_ - s.at_, ()), rfl, ?_, rfl⟩)
      · rw [w64 (n := t.at_ - s.at_ + size) (by omega), if_neg]
        intro e; rw [e] at c; revert c; cases t.wrap <;> simp
      · rw [if_pos]
        · simp
        · revert c; cases s.wrap <;> cases t.wrap <;> simp
    · rintro _ w' ⟨rfl, hw'⟩
      rw [hw']
      dsimp only
      refine t_if (fun c => t_ret ⟨?_, h.drop.drop.drop⟩) (fun c => t_ret ⟨?_, h.drop.drop.drop⟩)
      · unfold M.gapN at hgr ⊢
        rw [if_pos c] at hgr ⊢
        rw [w64 (n := 2 * size) (by omega), w64 (n := t.at_ - s.at_ + (if s.wrap = t.wrap then 0 else size) + 2 * size) (by omega)]
        rfl
      · unfold M.gapN
        rw [if_neg c]
        rfl
theorem spot_Parse_con (l : List UInt8) (hl : l.length = 4) : Con Tryz.prog NoRo 44 #[.string (mkB l)] (.tup [.agg [.I, .bool, .I], .I]) [] (((M.evOf l).off, (M.evOf l).wrap, (M.evOf l).fl, ()), 0, ()) [] := by
  intro w0 W w B _ h
  refine spot_Parse.calls (mkB l) ?_
  unfold spot_Parse.T
  have l1 := leI_lt (l.take 2) 2 (by simp; omega) (by omega)
  have l2 := leI_lt ((l.drop 2).take 2) 2 (by simp; omega) (by omega)
  repeat (first
    | refine t_tickS h fun w h => ?_
    | refine t_keepN ?_
    | refine t_ldB h 0 rfl rfl ?_
    | refine t_ldB h 1 rfl rfl ?_
    | refine t_ldB h 2 rfl rfl ?_
    | refine t_ldB h 3 rfl rfl ?_
    | refine t_ldB h 4 rfl rfl ?_
    | refine t_ldB h 5 rfl rfl ?_
    | refine t_ldB h 6 rfl rfl ?_
    | refine t_ldB h 7 rfl rfl ?_
    | refine t_ldB h 8 rfl rfl ?_
    | refine t_ldB h 9 rfl rfl ?_
    | refine t_ldO h 0 rfl rfl rfl ?_
    | refine t_ldO h 1 rfl rfl rfl ?_
    | refine t_ldO h 2 rfl rfl rfl ?_
    | refine t_ldO h 3 rfl rfl rfl ?_
    | refine t_ldO h 4 rfl rfl rfl ?_
    | refine t_ldO h 5 rfl rfl rfl ?_
    | refine t_ldO h 6 rfl rfl rfl ?_
    | refine t_ldO h 7 rfl rfl rfl ?_
    | refine t_ldO h 8 rfl rfl rfl ?_
    | refine t_ldO h 9 rfl rfl rfl ?_
    | refine t_keepB h 0 rfl rfl ?_
    | refine t_keepB h 1 rfl rfl ?_
    | refine t_keepB h 2 rfl rfl ?_
    | refine t_keepB h 3 rfl rfl ?_
    | refine t_keepB h 4 rfl rfl ?_
    | refine t_keepB h 5 rfl rfl ?_
    | refine t_keepB h 6 rfl rfl ?_
    | refine t_keepB h 7 rfl rfl ?_
    | refine t_keepB h 8 rfl rfl ?_
    | refine t_keepB h 9 rfl rfl ?_
    | (refine t_stB h 0 rfl (by simp [setL]) (by simp [Value.oneCell']) fun w h => ?_; try dsimp only [List.set, setL, List.eraseIdx, List.cons_append, List.nil_append, List.append_nil, Nat.zero_add, Nat.reduceAdd, Sl.v] at h)
    | (refine t_stB h 1 rfl (by simp [setL]) (by simp [Value.oneCell']) fun w h => ?_; try dsimp only [List.set, setL, List.eraseIdx, List.cons_append, List.nil_append, List.append_nil, Nat.zero_add, Nat.reduceAdd, Sl.v] at h)
    | (refine t_stB h 2 rfl (by simp [setL]) (by simp [Value.oneCell']) fun w h => ?_; try dsimp only [List.set, setL, List.eraseIdx, List.cons_append, List.nil_append, List.append_nil, Nat.zero_add, Nat.reduceAdd, Sl.v] at h)
    | (refine t_stB h 3 rfl (by simp [setL]) (by simp [Value.oneCell']) fun w h => ?_; try dsimp only [List.set, setL, List.eraseIdx, List.cons_append, List.nil_append, List.append_nil, Nat.zero_add, Nat.reduceAdd, Sl.v] at h)
    | (refine t_stB h 4 rfl (by simp [setL]) (by simp [Value.oneCell']) fun w h => ?_; try dsimp only [List.set, setL, List.eraseIdx, List.cons_append, List.nil_append, List.append_nil, Nat.zero_add, Nat.reduceAdd, Sl.v] at h)
    | (refine t_stB h 5 rfl (by simp [setL]) (by simp [Value.oneCell']) fun w h => ?_; try dsimp only [List.set, setL, List.eraseIdx, List.cons_append, List.nil_append, List.append_nil, Nat.zero_add, Nat.reduceAdd, Sl.v] at h)
    | (refine t_stB h 6 rfl (by simp [setL]) (by simp [Value.oneCell']) fun w h => ?_; try dsimp only [List.set, setL, List.eraseIdx, List.cons_append, List.nil_append, List.append_nil, Nat.zero_add, Nat.reduceAdd, Sl.v] at h)
    | (refine t_stB h 7 rfl (by simp [setL]) (by simp [Value.oneCell']) fun w h => ?_; try dsimp only [List.set, setL, List.eraseIdx, List.cons_append, List.nil_append, List.append_nil, Nat.zero_add, Nat.reduceAdd, Sl.v] at h)
    | (refine t_stB h 8 rfl (by simp [setL]) (by simp [Value.oneCell']) fun w h => ?_; try dsimp only [List.set, setL, List.eraseIdx, List.cons_append, List.nil_append, List.append_nil, Nat.zero_add, Nat.reduceAdd, Sl.v] at h)
    | (refine t_stB h 9 rfl (by simp [setL]) (by simp [Value.oneCell']) fun w h => ?_; try dsimp only [List.set, setL, List.eraseIdx, List.cons_append, List.nil_append, List.append_nil, Nat.zero_add, Nat.reduceAdd, Sl.v] at h)
    | refine t_newB h (by simp [Value.oneCell']) fun w b h hb => ?_
    | refine t_nil ?_
    | refine t_true rfl ?_
    | refine t_false rfl ?_
    | refine t_yes rfl ?_
    | refine t_nyes rfl ?_
    | refine t_no (by decide) ?_
    | refine t_nno (by decide) ?_
    | refine t_need (by decide) ?_)
  try dsimp only [List.set, setL, List.eraseIdx, List.cons_append, List.nil_append, List.append_nil, Nat.zero_add, Nat.reduceAdd, Sl.v] at h
  rw [mkB_size]
  refine t_nyes (by omega) ?_
  have s1 := words_Get_spec h l 0 2 false (by omega) (by omega) (by omega)
  rw [get0 hl] at s1
  refine t_callS (k := .tup [.U64, .I]) (x := (M.leI (l.take 2), 0, ())) s1 fun w h => ?_
  have s2 := words_Get_spec h l 2 2 false (by omega) (by omega) (by omega)
  rw [get2 hl] at s2
  refine t_callS (k := .tup [.U64, .I]) (x := (M.leI ((l.drop 2).take 2), 0, ())) s2 fun w h => ?_
  repeat (first
    | refine t_tickS h fun w h => ?_
    | refine t_keepN ?_
    | refine t_ldB h 0 rfl rfl ?_
    | refine t_ldB h 1 rfl rfl ?_
    | refine t_ldB h 2 rfl rfl ?_
    | refine t_ldB h 3 rfl rfl ?_
    | refine t_ldB h 4 rfl rfl ?_
    | refine t_ldB h 5 rfl rfl ?_
    | refine t_ldB h 6 rfl rfl ?_
    | refine t_ldB h 7 rfl rfl ?_
    | refine t_ldB h 8 rfl rfl ?_
    | refine t_ldB h 9 rfl rfl ?_
    | refine t_ldO h 0 rfl rfl rfl ?_
    | refine t_ldO h 1 rfl rfl rfl ?_
    | refine t_ldO h 2 rfl rfl rfl ?_
    | refine t_ldO h 3 rfl rfl rfl ?_
    | refine t_ldO h 4 rfl rfl rfl ?_
    | refine t_ldO h 5 rfl rfl rfl ?_
    | refine t_ldO h 6 rfl rfl rfl ?_
    | refine t_ldO h 7 rfl rfl rfl ?_
    | refine t_ldO h 8 rfl rfl rfl ?_
    | refine t_ldO h 9 rfl rfl rfl ?_
    | refine t_keepB h 0 rfl rfl ?_
    | refine t_keepB h 1 rfl rfl ?_
    | refine t_keepB h 2 rfl rfl ?_
    | refine t_keepB h 3 rfl rfl ?_
    | refine t_keepB h 4 rfl rfl ?_
    | refine t_keepB h 5 rfl rfl ?_
    | refine t_keepB h 6 rfl rfl ?_
    | refine t_keepB h 7 rfl rfl ?_
    | refine t_keepB h 8 rfl rfl ?_
    | refine t_keepB h 9 rfl rfl ?_
    | (refine t_stB h 0 rfl (by simp [setL]) (by simp [Value.oneCell']) fun w h => ?_; try dsimp only [List.set, setL, List.eraseIdx, List.cons_append, List.nil_append, List.append_nil, Nat.zero_add, Nat.reduceAdd, Sl.v] at h)
    | (refine t_stB h 1 rfl (by simp [setL]) (by simp [Value.oneCell']) fun w h => ?_; try dsimp only [List.set, setL, List.eraseIdx, List.cons_append, List.nil_append, List.append_nil, Nat.zero_add, Nat.reduceAdd, Sl.v] at h)
    | (refine t_stB h 2 rfl (by simp [setL]) (by simp [Value.oneCell']) fun w h => ?_; try dsimp only [List.set, setL, List.eraseIdx, List.cons_append, List.nil_append, List.append_nil, Nat.zero_add, Nat.reduceAdd, Sl.v] at h)
    | (refine t_stB h 3 rfl (by simp [setL]) (by simp [Value.oneCell']) fun w h => ?_; try dsimp only [List.set, setL, List.eraseIdx, List.cons_append, List.nil_append, List.append_nil, Nat.zero_add, Nat.reduceAdd, Sl.v] at h)
    | (refine t_stB h 4 rfl (by simp [setL]) (by simp [Value.oneCell']) fun w h => ?_; try dsimp only [List.set, setL, List.eraseIdx, List.cons_append, List.nil_append, List.append_nil, Nat.zero_add, Nat.reduceAdd, Sl.v] at h)
    | (refine t_stB h 5 rfl (by simp [setL]) (by simp [Value.oneCell']) fun w h => ?_; try dsimp only [List.set, setL, List.eraseIdx, List.cons_append, List.nil_append, List.append_nil, Nat.zero_add, Nat.reduceAdd, Sl.v] at h)
    | (refine t_stB h 6 rfl (by simp [setL]) (by simp [Value.oneCell']) fun w h => ?_; try dsimp only [List.set, setL, List.eraseIdx, List.cons_append, List.nil_append, List.append_nil, Nat.zero_add, Nat.reduceAdd, Sl.v] at h)
    | (refine t_stB h 7 rfl (by simp [setL]) (by simp [Value.oneCell']) fun w h => ?_; try dsimp only [List.set, setL, List.eraseIdx, List.cons_append, List.nil_append, List.append_nil, Nat.zero_add, Nat.reduceAdd, Sl.v] at h)
    | (refine t_stB h 8 rfl (by simp [setL]) (by simp [Value.oneCell']) fun w h => ?_; try dsimp only [List.set, setL, List.eraseIdx, List.cons_append, List.nil_append, List.append_nil, Nat.zero_add, Nat.reduceAdd, Sl.v] at h)
    | (refine t_stB h 9 rfl (by simp [setL]) (by simp [Value.oneCell']) fun w h => ?_; try dsimp only [List.set, setL, List.eraseIdx, List.cons_append, List.nil_append, List.append_nil, Nat.zero_add, Nat.reduceAdd, Sl.v] at h)
    | refine t_newB h (by simp [Value.oneCell']) fun w b h hb => ?_
    | refine t_nil ?_
    | refine t_true rfl ?_
    | refine t_false rfl ?_
    | refine t_yes rfl ?_
    | refine t_nyes rfl ?_
    | refine t_no (by decide) ?_
    | refine t_nno (by decide) ?_
    | refine t_need (by decide) ?_)
  try dsimp only [List.set, setL, List.eraseIdx, List.cons_append, List.nil_append, List.append_nil, Nat.zero_add, Nat.reduceAdd, Sl.v] at h
  refine t_ret ⟨?_, h.drop⟩
  dsimp only
  rw [w64 (n := M.leI (l.take 2)) (by omega), w64 (n := M.leI ((l.drop 2).take 2)) (by omega), bandn_round _ l1]
  have e : (!decide (band .u64 (M.leI (l.take 2)) 32768 = 0)) = decide (32768 ≤ M.leI (l.take 2)) := by
    have := band_round _ l1
    by_cases c : band .u64 (M.leI (l.take 2)) 32768 = 0
    · simp [c, this.1 c]
    · have h3 : 32768 ≤ M.leI (l.take 2) := by
        apply Classical.byContradiction; intro h4; exact c (this.2 h4)
      simp [c, h3]
  rw [e]
  rfl
theorem spot_Build_con (e : M.Ev) (hf : i64R e.off ∧ i64R e.fl) : Con Tryz.prog NoRo 48 #[Ev.v e] (.tup [.S, .I]) [] (mkB (if e.ok then M.evB e else []), (if e.ok then 0 else 1), ()) [] := by
  intro w0 W w B _ h
  refine spot_Build.calls (e.off, e.wrap, e.fl, ()) ?_
  unfold spot_Build.T
  have no : ∀ {w}, St w0 W w B → ¬ e.ok → Ending.returned (.tuple #[.string (ByteArray.mk #[]), .int .i64 1]) = .returned ((Rk.tup [.S, .I]).v (mkB (if e.ok then M.evB e else []), (if e.ok then 0 else 1), ())) ∧ St w0 W w ([] ++ B) := fun hs hn => by
    rw [if_neg hn, if_neg hn]; exact ⟨rfl, hs⟩
  unfold i64R at hf
  repeat (first
    | refine t_tickS h fun w h => ?_
    | refine t_keepN ?_
    | refine t_ldB h 0 rfl rfl ?_
    | refine t_ldB h 1 rfl rfl ?_
    | refine t_ldB h 2 rfl rfl ?_
    | refine t_ldB h 3 rfl rfl ?_
    | refine t_ldB h 4 rfl rfl ?_
    | refine t_ldB h 5 rfl rfl ?_
    | refine t_ldB h 6 rfl rfl ?_
    | refine t_ldB h 7 rfl rfl ?_
    | refine t_ldB h 8 rfl rfl ?_
    | refine t_ldB h 9 rfl rfl ?_
    | refine t_ldO h 0 rfl rfl rfl ?_
    | refine t_ldO h 1 rfl rfl rfl ?_
    | refine t_ldO h 2 rfl rfl rfl ?_
    | refine t_ldO h 3 rfl rfl rfl ?_
    | refine t_ldO h 4 rfl rfl rfl ?_
    | refine t_ldO h 5 rfl rfl rfl ?_
    | refine t_ldO h 6 rfl rfl rfl ?_
    | refine t_ldO h 7 rfl rfl rfl ?_
    | refine t_ldO h 8 rfl rfl rfl ?_
    | refine t_ldO h 9 rfl rfl rfl ?_
    | refine t_keepB h 0 rfl rfl ?_
    | refine t_keepB h 1 rfl rfl ?_
    | refine t_keepB h 2 rfl rfl ?_
    | refine t_keepB h 3 rfl rfl ?_
    | refine t_keepB h 4 rfl rfl ?_
    | refine t_keepB h 5 rfl rfl ?_
    | refine t_keepB h 6 rfl rfl ?_
    | refine t_keepB h 7 rfl rfl ?_
    | refine t_keepB h 8 rfl rfl ?_
    | refine t_keepB h 9 rfl rfl ?_
    | (refine t_stB h 0 rfl (by simp [setL]) (by simp [Value.oneCell']) fun w h => ?_; try dsimp only [List.set, setL, List.eraseIdx, List.cons_append, List.nil_append, List.append_nil, Nat.zero_add, Nat.reduceAdd, Sl.v] at h)
    | (refine t_stB h 1 rfl (by simp [setL]) (by simp [Value.oneCell']) fun w h => ?_; try dsimp only [List.set, setL, List.eraseIdx, List.cons_append, List.nil_append, List.append_nil, Nat.zero_add, Nat.reduceAdd, Sl.v] at h)
    | (refine t_stB h 2 rfl (by simp [setL]) (by simp [Value.oneCell']) fun w h => ?_; try dsimp only [List.set, setL, List.eraseIdx, List.cons_append, List.nil_append, List.append_nil, Nat.zero_add, Nat.reduceAdd, Sl.v] at h)
    | (refine t_stB h 3 rfl (by simp [setL]) (by simp [Value.oneCell']) fun w h => ?_; try dsimp only [List.set, setL, List.eraseIdx, List.cons_append, List.nil_append, List.append_nil, Nat.zero_add, Nat.reduceAdd, Sl.v] at h)
    | (refine t_stB h 4 rfl (by simp [setL]) (by simp [Value.oneCell']) fun w h => ?_; try dsimp only [List.set, setL, List.eraseIdx, List.cons_append, List.nil_append, List.append_nil, Nat.zero_add, Nat.reduceAdd, Sl.v] at h)
    | (refine t_stB h 5 rfl (by simp [setL]) (by simp [Value.oneCell']) fun w h => ?_; try dsimp only [List.set, setL, List.eraseIdx, List.cons_append, List.nil_append, List.append_nil, Nat.zero_add, Nat.reduceAdd, Sl.v] at h)
    | (refine t_stB h 6 rfl (by simp [setL]) (by simp [Value.oneCell']) fun w h => ?_; try dsimp only [List.set, setL, List.eraseIdx, List.cons_append, List.nil_append, List.append_nil, Nat.zero_add, Nat.reduceAdd, Sl.v] at h)
    | (refine t_stB h 7 rfl (by simp [setL]) (by simp [Value.oneCell']) fun w h => ?_; try dsimp only [List.set, setL, List.eraseIdx, List.cons_append, List.nil_append, List.append_nil, Nat.zero_add, Nat.reduceAdd, Sl.v] at h)
    | (refine t_stB h 8 rfl (by simp [setL]) (by simp [Value.oneCell']) fun w h => ?_; try dsimp only [List.set, setL, List.eraseIdx, List.cons_append, List.nil_append, List.append_nil, Nat.zero_add, Nat.reduceAdd, Sl.v] at h)
    | (refine t_stB h 9 rfl (by simp [setL]) (by simp [Value.oneCell']) fun w h => ?_; try dsimp only [List.set, setL, List.eraseIdx, List.cons_append, List.nil_append, List.append_nil, Nat.zero_add, Nat.reduceAdd, Sl.v] at h)
    | refine t_newB h (by simp [Value.oneCell']) fun w b h hb => ?_
    | refine t_nil ?_
    | refine t_true rfl ?_
    | refine t_false rfl ?_
    | refine t_yes rfl ?_
    | refine t_nyes rfl ?_
    | refine t_no (by decide) ?_
    | refine t_nno (by decide) ?_
    | refine t_need (by decide) ?_)
  try dsimp only [List.set, setL, List.eraseIdx, List.cons_append, List.nil_append, List.append_nil, Nat.zero_add, Nat.reduceAdd, Sl.v] at h
  refine t_if (fun c1 => t_ret (no h.drop (by unfold M.Ev.ok; omega))) (fun c1 => ?_)
  repeat (first
    | refine t_tickS h fun w h => ?_
    | refine t_keepN ?_
    | refine t_ldB h 0 rfl rfl ?_
    | refine t_ldB h 1 rfl rfl ?_
    | refine t_ldB h 2 rfl rfl ?_
    | refine t_ldB h 3 rfl rfl ?_
    | refine t_ldB h 4 rfl rfl ?_
    | refine t_ldB h 5 rfl rfl ?_
    | refine t_ldB h 6 rfl rfl ?_
    | refine t_ldB h 7 rfl rfl ?_
    | refine t_ldB h 8 rfl rfl ?_
    | refine t_ldB h 9 rfl rfl ?_
    | refine t_ldO h 0 rfl rfl rfl ?_
    | refine t_ldO h 1 rfl rfl rfl ?_
    | refine t_ldO h 2 rfl rfl rfl ?_
    | refine t_ldO h 3 rfl rfl rfl ?_
    | refine t_ldO h 4 rfl rfl rfl ?_
    | refine t_ldO h 5 rfl rfl rfl ?_
    | refine t_ldO h 6 rfl rfl rfl ?_
    | refine t_ldO h 7 rfl rfl rfl ?_
    | refine t_ldO h 8 rfl rfl rfl ?_
    | refine t_ldO h 9 rfl rfl rfl ?_
    | refine t_keepB h 0 rfl rfl ?_
    | refine t_keepB h 1 rfl rfl ?_
    | refine t_keepB h 2 rfl rfl ?_
    | refine t_keepB h 3 rfl rfl ?_
    | refine t_keepB h 4 rfl rfl ?_
    | refine t_keepB h 5 rfl rfl ?_
    | refine t_keepB h 6 rfl rfl ?_
    | refine t_keepB h 7 rfl rfl ?_
    | refine t_keepB h 8 rfl rfl ?_
    | refine t_keepB h 9 rfl rfl ?_
    | (refine t_stB h 0 rfl (by simp [setL]) (by simp [Value.oneCell']) fun w h => ?_; try dsimp only [List.set, setL, List.eraseIdx, List.cons_append, List.nil_append, List.append_nil, Nat.zero_add, Nat.reduceAdd, Sl.v] at h)
    | (refine t_stB h 1 rfl (by simp [setL]) (by simp [Value.oneCell']) fun w h => ?_; try dsimp only [List.set, setL, List.eraseIdx, List.cons_append, List.nil_append, List.append_nil, Nat.zero_add, Nat.reduceAdd, Sl.v] at h)
    | (refine t_stB h 2 rfl (by simp [setL]) (by simp [Value.oneCell']) fun w h => ?_; try dsimp only [List.set, setL, List.eraseIdx, List.cons_append, List.nil_append, List.append_nil, Nat.zero_add, Nat.reduceAdd, Sl.v] at h)
    | (refine t_stB h 3 rfl (by simp [setL]) (by simp [Value.oneCell']) fun w h => ?_; try dsimp only [List.set, setL, List.eraseIdx, List.cons_append, List.nil_append, List.append_nil, Nat.zero_add, Nat.reduceAdd, Sl.v] at h)
    | (refine t_stB h 4 rfl (by simp [setL]) (by simp [Value.oneCell']) fun w h => ?_; try dsimp only [List.set, setL, List.eraseIdx, List.cons_append, List.nil_append, List.append_nil, Nat.zero_add, Nat.reduceAdd, Sl.v] at h)
    | (refine t_stB h 5 rfl (by simp [setL]) (by simp [Value.oneCell']) fun w h => ?_; try dsimp only [List.set, setL, List.eraseIdx, List.cons_append, List.nil_append, List.append_nil, Nat.zero_add, Nat.reduceAdd, Sl.v] at h)
    | (refine t_stB h 6 rfl (by simp [setL]) (by simp [Value.oneCell']) fun w h => ?_; try dsimp only [List.set, setL, List.eraseIdx, List.cons_append, List.nil_append, List.append_nil, Nat.zero_add, Nat.reduceAdd, Sl.v] at h)
    | (refine t_stB h 7 rfl (by simp [setL]) (by simp [Value.oneCell']) fun w h => ?_; try dsimp only [List.set, setL, List.eraseIdx, List.cons_append, List.nil_append, List.append_nil, Nat.zero_add, Nat.reduceAdd, Sl.v] at h)
    | (refine t_stB h 8 rfl (by simp [setL]) (by simp [Value.oneCell']) fun w h => ?_; try dsimp only [List.set, setL, List.eraseIdx, List.cons_append, List.nil_append, List.append_nil, Nat.zero_add, Nat.reduceAdd, Sl.v] at h)
    | (refine t_stB h 9 rfl (by simp [setL]) (by simp [Value.oneCell']) fun w h => ?_; try dsimp only [List.set, setL, List.eraseIdx, List.cons_append, List.nil_append, List.append_nil, Nat.zero_add, Nat.reduceAdd, Sl.v] at h)
    | refine t_newB h (by simp [Value.oneCell']) fun w b h hb => ?_
    | refine t_nil ?_
    | refine t_true rfl ?_
    | refine t_false rfl ?_
    | refine t_yes rfl ?_
    | refine t_nyes rfl ?_
    | refine t_no (by decide) ?_
    | refine t_nno (by decide) ?_
    | refine t_need (by decide) ?_)
  try dsimp only [List.set, setL, List.eraseIdx, List.cons_append, List.nil_append, List.append_nil, Nat.zero_add, Nat.reduceAdd, Sl.v] at h
  refine t_if (fun c2 => t_ret (no h.drop (by unfold M.Ev.ok; omega))) (fun c2 => ?_)
  repeat (first
    | refine t_tickS h fun w h => ?_
    | refine t_keepN ?_
    | refine t_ldB h 0 rfl rfl ?_
    | refine t_ldB h 1 rfl rfl ?_
    | refine t_ldB h 2 rfl rfl ?_
    | refine t_ldB h 3 rfl rfl ?_
    | refine t_ldB h 4 rfl rfl ?_
    | refine t_ldB h 5 rfl rfl ?_
    | refine t_ldB h 6 rfl rfl ?_
    | refine t_ldB h 7 rfl rfl ?_
    | refine t_ldB h 8 rfl rfl ?_
    | refine t_ldB h 9 rfl rfl ?_
    | refine t_ldO h 0 rfl rfl rfl ?_
    | refine t_ldO h 1 rfl rfl rfl ?_
    | refine t_ldO h 2 rfl rfl rfl ?_
    | refine t_ldO h 3 rfl rfl rfl ?_
    | refine t_ldO h 4 rfl rfl rfl ?_
    | refine t_ldO h 5 rfl rfl rfl ?_
    | refine t_ldO h 6 rfl rfl rfl ?_
    | refine t_ldO h 7 rfl rfl rfl ?_
    | refine t_ldO h 8 rfl rfl rfl ?_
    | refine t_ldO h 9 rfl rfl rfl ?_
    | refine t_keepB h 0 rfl rfl ?_
    | refine t_keepB h 1 rfl rfl ?_
    | refine t_keepB h 2 rfl rfl ?_
    | refine t_keepB h 3 rfl rfl ?_
    | refine t_keepB h 4 rfl rfl ?_
    | refine t_keepB h 5 rfl rfl ?_
    | refine t_keepB h 6 rfl rfl ?_
    | refine t_keepB h 7 rfl rfl ?_
    | refine t_keepB h 8 rfl rfl ?_
    | refine t_keepB h 9 rfl rfl ?_
    | (refine t_stB h 0 rfl (by simp [setL]) (by simp [Value.oneCell']) fun w h => ?_; try dsimp only [List.set, setL, List.eraseIdx, List.cons_append, List.nil_append, List.append_nil, Nat.zero_add, Nat.reduceAdd, Sl.v] at h)
    | (refine t_stB h 1 rfl (by simp [setL]) (by simp [Value.oneCell']) fun w h => ?_; try dsimp only [List.set, setL, List.eraseIdx, List.cons_append, List.nil_append, List.append_nil, Nat.zero_add, Nat.reduceAdd, Sl.v] at h)
    | (refine t_stB h 2 rfl (by simp [setL]) (by simp [Value.oneCell']) fun w h => ?_; try dsimp only [List.set, setL, List.eraseIdx, List.cons_append, List.nil_append, List.append_nil, Nat.zero_add, Nat.reduceAdd, Sl.v] at h)
    | (refine t_stB h 3 rfl (by simp [setL]) (by simp [Value.oneCell']) fun w h => ?_; try dsimp only [List.set, setL, List.eraseIdx, List.cons_append, List.nil_append, List.append_nil, Nat.zero_add, Nat.reduceAdd, Sl.v] at h)
    | (refine t_stB h 4 rfl (by simp [setL]) (by simp [Value.oneCell']) fun w h => ?_; try dsimp only [List.set, setL, List.eraseIdx, List.cons_append, List.nil_append, List.append_nil, Nat.zero_add, Nat.reduceAdd, Sl.v] at h)
    | (refine t_stB h 5 rfl (by simp [setL]) (by simp [Value.oneCell']) fun w h => ?_; try dsimp only [List.set, setL, List.eraseIdx, List.cons_append, List.nil_append, List.append_nil, Nat.zero_add, Nat.reduceAdd, Sl.v] at h)
    | (refine t_stB h 6 rfl (by simp [setL]) (by simp [Value.oneCell']) fun w h => ?_; try dsimp only [List.set, setL, List.eraseIdx, List.cons_append, List.nil_append, List.append_nil, Nat.zero_add, Nat.reduceAdd, Sl.v] at h)
    | (refine t_stB h 7 rfl (by simp [setL]) (by simp [Value.oneCell']) fun w h => ?_; try dsimp only [List.set, setL, List.eraseIdx, List.cons_append, List.nil_append, List.append_nil, Nat.zero_add, Nat.reduceAdd, Sl.v] at h)
    | (refine t_stB h 8 rfl (by simp [setL]) (by simp [Value.oneCell']) fun w h => ?_; try dsimp only [List.set, setL, List.eraseIdx, List.cons_append, List.nil_append, List.append_nil, Nat.zero_add, Nat.reduceAdd, Sl.v] at h)
    | (refine t_stB h 9 rfl (by simp [setL]) (by simp [Value.oneCell']) fun w h => ?_; try dsimp only [List.set, setL, List.eraseIdx, List.cons_append, List.nil_append, List.append_nil, Nat.zero_add, Nat.reduceAdd, Sl.v] at h)
    | refine t_newB h (by simp [Value.oneCell']) fun w b h hb => ?_
    | refine t_nil ?_
    | refine t_true rfl ?_
    | refine t_false rfl ?_
    | refine t_yes rfl ?_
    | refine t_nyes rfl ?_
    | refine t_no (by decide) ?_
    | refine t_nno (by decide) ?_
    | refine t_need (by decide) ?_)
  try dsimp only [List.set, setL, List.eraseIdx, List.cons_append, List.nil_append, List.append_nil, Nat.zero_add, Nat.reduceAdd, Sl.v] at h
  refine t_if (fun c3 => t_ret (no h.drop (by unfold M.Ev.ok; omega))) (fun c3 => ?_)
  repeat (first
    | refine t_tickS h fun w h => ?_
    | refine t_keepN ?_
    | refine t_ldB h 0 rfl rfl ?_
    | refine t_ldB h 1 rfl rfl ?_
    | refine t_ldB h 2 rfl rfl ?_
    | refine t_ldB h 3 rfl rfl ?_
    | refine t_ldB h 4 rfl rfl ?_
    | refine t_ldB h 5 rfl rfl ?_
    | refine t_ldB h 6 rfl rfl ?_
    | refine t_ldB h 7 rfl rfl ?_
    | refine t_ldB h 8 rfl rfl ?_
    | refine t_ldB h 9 rfl rfl ?_
    | refine t_ldO h 0 rfl rfl rfl ?_
    | refine t_ldO h 1 rfl rfl rfl ?_
    | refine t_ldO h 2 rfl rfl rfl ?_
    | refine t_ldO h 3 rfl rfl rfl ?_
    | refine t_ldO h 4 rfl rfl rfl ?_
    | refine t_ldO h 5 rfl rfl rfl ?_
    | refine t_ldO h 6 rfl rfl rfl ?_
    | refine t_ldO h 7 rfl rfl rfl ?_
    | refine t_ldO h 8 rfl rfl rfl ?_
    | refine t_ldO h 9 rfl rfl rfl ?_
    | refine t_keepB h 0 rfl rfl ?_
    | refine t_keepB h 1 rfl rfl ?_
    | refine t_keepB h 2 rfl rfl ?_
    | refine t_keepB h 3 rfl rfl ?_
    | refine t_keepB h 4 rfl rfl ?_
    | refine t_keepB h 5 rfl rfl ?_
    | refine t_keepB h 6 rfl rfl ?_
    | refine t_keepB h 7 rfl rfl ?_
    | refine t_keepB h 8 rfl rfl ?_
    | refine t_keepB h 9 rfl rfl ?_
    | (refine t_stB h 0 rfl (by simp [setL]) (by simp [Value.oneCell']) fun w h => ?_; try dsimp only [List.set, setL, List.eraseIdx, List.cons_append, List.nil_append, List.append_nil, Nat.zero_add, Nat.reduceAdd, Sl.v] at h)
    | (refine t_stB h 1 rfl (by simp [setL]) (by simp [Value.oneCell']) fun w h => ?_; try dsimp only [List.set, setL, List.eraseIdx, List.cons_append, List.nil_append, List.append_nil, Nat.zero_add, Nat.reduceAdd, Sl.v] at h)
    | (refine t_stB h 2 rfl (by simp [setL]) (by simp [Value.oneCell']) fun w h => ?_; try dsimp only [List.set, setL, List.eraseIdx, List.cons_append, List.nil_append, List.append_nil, Nat.zero_add, Nat.reduceAdd, Sl.v] at h)
    | (refine t_stB h 3 rfl (by simp [setL]) (by simp [Value.oneCell']) fun w h => ?_; try dsimp only [List.set, setL, List.eraseIdx, List.cons_append, List.nil_append, List.append_nil, Nat.zero_add, Nat.reduceAdd, Sl.v] at h)
    | (refine t_stB h 4 rfl (by simp [setL]) (by simp [Value.oneCell']) fun w h => ?_; try dsimp only [List.set, setL, List.eraseIdx, List.cons_append, List.nil_append, List.append_nil, Nat.zero_add, Nat.reduceAdd, Sl.v] at h)
    | (refine t_stB h 5 rfl (by simp [setL]) (by simp [Value.oneCell']) fun w h => ?_; try dsimp only [List.set, setL, List.eraseIdx, List.cons_append, List.nil_append, List.append_nil, Nat.zero_add, Nat.reduceAdd, Sl.v] at h)
    | (refine t_stB h 6 rfl (by simp [setL]) (by simp [Value.oneCell']) fun w h => ?_; try dsimp only [List.set, setL, List.eraseIdx, List.cons_append, List.nil_append, List.append_nil, Nat.zero_add, Nat.reduceAdd, Sl.v] at h)
    | (refine t_stB h 7 rfl (by simp [setL]) (by simp [Value.oneCell']) fun w h => ?_; try dsimp only [List.set, setL, List.eraseIdx, List.cons_append, List.nil_append, List.append_nil, Nat.zero_add, Nat.reduceAdd, Sl.v] at h)
    | (refine t_stB h 8 rfl (by simp [setL]) (by simp [Value.oneCell']) fun w h => ?_; try dsimp only [List.set, setL, List.eraseIdx, List.cons_append, List.nil_append, List.append_nil, Nat.zero_add, Nat.reduceAdd, Sl.v] at h)
    | (refine t_stB h 9 rfl (by simp [setL]) (by simp [Value.oneCell']) fun w h => ?_; try dsimp only [List.set, setL, List.eraseIdx, List.cons_append, List.nil_append, List.append_nil, Nat.zero_add, Nat.reduceAdd, Sl.v] at h)
    | refine t_newB h (by simp [Value.oneCell']) fun w b h hb => ?_
    | refine t_nil ?_
    | refine t_true rfl ?_
    | refine t_false rfl ?_
    | refine t_yes rfl ?_
    | refine t_nyes rfl ?_
    | refine t_no (by decide) ?_
    | refine t_nno (by decide) ?_
    | refine t_need (by decide) ?_)
  try dsimp only [List.set, setL, List.eraseIdx, List.cons_append, List.nil_append, List.append_nil, Nat.zero_add, Nat.reduceAdd, Sl.v] at h
  refine t_bindQ (fun x w' => x = (e.off + (if e.wrap then 32768 else 0), ()) ∧ w' = w) ?_ ?_
  · repeat (first
      | refine t_tickS h fun w h => ?_
      | refine t_keepN ?_
      | refine t_ldB h 0 rfl rfl ?_
      | refine t_ldB h 1 rfl rfl ?_
      | refine t_ldB h 2 rfl rfl ?_
      | refine t_ldB h 3 rfl rfl ?_
      | refine t_ldB h 4 rfl rfl ?_
      | refine t_ldB h 5 rfl rfl ?_
      | refine t_ldB h 6 rfl rfl ?_
      | refine t_ldB h 7 rfl rfl ?_
      | refine t_ldB h 8 rfl rfl ?_
      | refine t_ldB h 9 rfl rfl ?_
      | refine t_ldO h 0 rfl rfl rfl ?_
      | refine t_ldO h 1 rfl rfl rfl ?_
      | refine t_ldO h 2 rfl rfl rfl ?_
      | refine t_ldO h 3 rfl rfl rfl ?_
      | refine t_ldO h 4 rfl rfl rfl ?_
      | refine t_ldO h 5 rfl rfl rfl ?_
      | refine t_ldO h 6 rfl rfl rfl ?_
      | refine t_ldO h 7 rfl rfl rfl ?_
      | refine t_ldO h 8 rfl rfl rfl ?_
      | refine t_ldO h 9 rfl rfl rfl ?_
      | refine t_keepB h 0 rfl rfl ?_
      | refine t_keepB h 1 rfl rfl ?_
      | refine t_keepB h 2 rfl rfl ?_
      | refine t_keepB h 3 rfl rfl ?_
      | refine t_keepB h 4 rfl rfl ?_
      | refine t_keepB h 5 rfl rfl ?_
      | refine t_keepB h 6 rfl rfl ?_
      | refine t_keepB h 7 rfl rfl ?_
      | refine t_keepB h 8 rfl rfl ?_
      | refine t_keepB h 9 rfl rfl ?_
      | (refine t_stB h 0 rfl (by simp [setL]) (by simp [Value.oneCell']) fun w h => ?_; try dsimp only [List.set, setL, List.eraseIdx, List.cons_append, List.nil_append, List.append_nil, Nat.zero_add, Nat.reduceAdd, Sl.v] at h)
      | (refine t_stB h 1 rfl (by simp [setL]) (by simp [Value.oneCell']) fun w h => ?_; try dsimp only [List.set, setL, List.eraseIdx, List.cons_append, List.nil_append, List.append_nil, Nat.zero_add, Nat.reduceAdd, Sl.v] at h)
      | (refine t_stB h 2 rfl (by simp [setL]) (by simp [Value.oneCell']) fun w h => ?_; try dsimp only [List.set, setL, List.eraseIdx, List.cons_append, List.nil_append, List.append_nil, Nat.zero_add, Nat.reduceAdd, Sl.v] at h)
      | (refine t_stB h 3 rfl (by simp [setL]) (by simp [Value.oneCell']) fun w h => ?_; try dsimp only [List.set, setL, List.eraseIdx, List.cons_append, List.nil_append, List.append_nil, Nat.zero_add, Nat.reduceAdd, Sl.v] at h)
      | (refine t_stB h 4 rfl (by simp [setL]) (by simp [Value.oneCell']) fun w h => ?_; try dsimp only [List.set, setL, List.eraseIdx, List.cons_append, List.nil_append, List.append_nil, Nat.zero_add, Nat.reduceAdd, Sl.v] at h)
      | (refine t_stB h 5 rfl (by simp [setL]) (by simp [Value.oneCell']) fun w h => ?_; try dsimp only [List.set, setL, List.eraseIdx, List.cons_append, List.nil_append, List.append_nil, Nat.zero_add, Nat.reduceAdd, Sl.v] at h)
      | (refine t_stB h 6 rfl (by simp [setL]) (by simp [Value.oneCell']) fun w h => ?_; try dsimp only [List.set, setL, List.eraseIdx, List.cons_append, List.nil_append, List.append_nil, Nat.zero_add, Nat.reduceAdd, Sl.v] at h)
      | (refine t_stB h 7 rfl (by simp [setL]) (by simp [Value.oneCell']) fun w h => ?_; try dsimp only [List.set, setL, List.eraseIdx, List.cons_append, List.nil_append, List.append_nil, Nat.zero_add, Nat.reduceAdd, Sl.v] at h)
      | (refine t_stB h 8 rfl (by simp [setL]) (by simp [Value.oneCell']) fun w h => ?_; try dsimp only [List.set, setL, List.eraseIdx, List.cons_append, List.nil_append, List.append_nil, Nat.zero_add, Nat.reduceAdd, Sl.v] at h)
      | (refine t_stB h 9 rfl (by simp [setL]) (by simp [Value.oneCell']) fun w h => ?_; try dsimp only [List.set, setL, List.eraseIdx, List.cons_append, List.nil_append, List.append_nil, Nat.zero_add, Nat.reduceAdd, Sl.v] at h)
      | refine t_newB h (by simp [Value.oneCell']) fun w b h hb => ?_
      | refine t_nil ?_
      | refine t_true rfl ?_
      | refine t_false rfl ?_
      | refine t_yes rfl ?_
      | refine t_nyes rfl ?_
      | refine t_no (by decide) ?_
      | refine t_nno (by decide) ?_
      | refine t_need (by decide) ?_)
    try dsimp only [List.set, setL, List.eraseIdx, List.cons_append, List.nil_append, List.append_nil, Nat.zero_add, Nat.reduceAdd, Sl.v] at h
    refine t_cond (fun c => t_jmp ⟨(bor .i64 e.off 32768, ()), rfl, ?_, rfl⟩) (fun c => t_jmp ⟨(e.off, ()), rfl, ?_, rfl⟩)
    · rw [bor_round _ (by omega), c]; rfl
    · rw [c]; simp
  rintro _ w' ⟨rfl, hw'⟩
  rw [hw']
  dsimp only
  have ho : 0 ≤ e.off + (if e.wrap then 32768 else 0) ∧ e.off + (if e.wrap then 32768 else 0) < 65536 := by split <;> omega
  generalize hx : e.off + (if e.wrap then 32768 else 0 : Int) = x at *
  rw [u64 (n := x) (by omega)]
  have s1 := words_Put_spec h x 2 false (by omega) (by omega)
  have p1 : M.put x 2 false = (M.leB x.toNat 2, 0) := put_le x 2 (by omega) (by omega)
  rw [p1] at s1
  refine t_callS (k := .tup [.S, .I]) (x := (mkB (M.leB x.toNat 2), 0, ())) s1 fun w h => ?_
  repeat (first
    | refine t_tickS h fun w h => ?_
    | refine t_keepN ?_
    | refine t_ldB h 0 rfl rfl ?_
    | refine t_ldB h 1 rfl rfl ?_
    | refine t_ldB h 2 rfl rfl ?_
    | refine t_ldB h 3 rfl rfl ?_
    | refine t_ldB h 4 rfl rfl ?_
    | refine t_ldB h 5 rfl rfl ?_
    | refine t_ldB h 6 rfl rfl ?_
    | refine t_ldB h 7 rfl rfl ?_
    | refine t_ldB h 8 rfl rfl ?_
    | refine t_ldB h 9 rfl rfl ?_
    | refine t_ldO h 0 rfl rfl rfl ?_
    | refine t_ldO h 1 rfl rfl rfl ?_
    | refine t_ldO h 2 rfl rfl rfl ?_
    | refine t_ldO h 3 rfl rfl rfl ?_
    | refine t_ldO h 4 rfl rfl rfl ?_
    | refine t_ldO h 5 rfl rfl rfl ?_
    | refine t_ldO h 6 rfl rfl rfl ?_
    | refine t_ldO h 7 rfl rfl rfl ?_
    | refine t_ldO h 8 rfl rfl rfl ?_
    | refine t_ldO h 9 rfl rfl rfl ?_
    | refine t_keepB h 0 rfl rfl ?_
    | refine t_keepB h 1 rfl rfl ?_
    | refine t_keepB h 2 rfl rfl ?_
    | refine t_keepB h 3 rfl rfl ?_
    | refine t_keepB h 4 rfl rfl ?_
    | refine t_keepB h 5 rfl rfl ?_
    | refine t_keepB h 6 rfl rfl ?_
    | refine t_keepB h 7 rfl rfl ?_
    | refine t_keepB h 8 rfl rfl ?_
    | refine t_keepB h 9 rfl rfl ?_
    | (refine t_stB h 0 rfl (by simp [setL]) (by simp [Value.oneCell']) fun w h => ?_; try dsimp only [List.set, setL, List.eraseIdx, List.cons_append, List.nil_append, List.append_nil, Nat.zero_add, Nat.reduceAdd, Sl.v] at h)
    | (refine t_stB h 1 rfl (by simp [setL]) (by simp [Value.oneCell']) fun w h => ?_; try dsimp only [List.set, setL, List.eraseIdx, List.cons_append, List.nil_append, List.append_nil, Nat.zero_add, Nat.reduceAdd, Sl.v] at h)
    | (refine t_stB h 2 rfl (by simp [setL]) (by simp [Value.oneCell']) fun w h => ?_; try dsimp only [List.set, setL, List.eraseIdx, List.cons_append, List.nil_append, List.append_nil, Nat.zero_add, Nat.reduceAdd, Sl.v] at h)
    | (refine t_stB h 3 rfl (by simp [setL]) (by simp [Value.oneCell']) fun w h => ?_; try dsimp only [List.set, setL, List.eraseIdx, List.cons_append, List.nil_append, List.append_nil, Nat.zero_add, Nat.reduceAdd, Sl.v] at h)
    | (refine t_stB h 4 rfl (by simp [setL]) (by simp [Value.oneCell']) fun w h => ?_; try dsimp only [List.set, setL, List.eraseIdx, List.cons_append, List.nil_append, List.append_nil, Nat.zero_add, Nat.reduceAdd, Sl.v] at h)
    | (refine t_stB h 5 rfl (by simp [setL]) (by simp [Value.oneCell']) fun w h => ?_; try dsimp only [List.set, setL, List.eraseIdx, List.cons_append, List.nil_append, List.append_nil, Nat.zero_add, Nat.reduceAdd, Sl.v] at h)
    | (refine t_stB h 6 rfl (by simp [setL]) (by simp [Value.oneCell']) fun w h => ?_; try dsimp only [List.set, setL, List.eraseIdx, List.cons_append, List.nil_append, List.append_nil, Nat.zero_add, Nat.reduceAdd, Sl.v] at h)
    | (refine t_stB h 7 rfl (by simp [setL]) (by simp [Value.oneCell']) fun w h => ?_; try dsimp only [List.set, setL, List.eraseIdx, List.cons_append, List.nil_append, List.append_nil, Nat.zero_add, Nat.reduceAdd, Sl.v] at h)
    | (refine t_stB h 8 rfl (by simp [setL]) (by simp [Value.oneCell']) fun w h => ?_; try dsimp only [List.set, setL, List.eraseIdx, List.cons_append, List.nil_append, List.append_nil, Nat.zero_add, Nat.reduceAdd, Sl.v] at h)
    | (refine t_stB h 9 rfl (by simp [setL]) (by simp [Value.oneCell']) fun w h => ?_; try dsimp only [List.set, setL, List.eraseIdx, List.cons_append, List.nil_append, List.append_nil, Nat.zero_add, Nat.reduceAdd, Sl.v] at h)
    | refine t_newB h (by simp [Value.oneCell']) fun w b h hb => ?_
    | refine t_nil ?_
    | refine t_true rfl ?_
    | refine t_false rfl ?_
    | refine t_yes rfl ?_
    | refine t_nyes rfl ?_
    | refine t_no (by decide) ?_
    | refine t_nno (by decide) ?_
    | refine t_need (by decide) ?_)
  try dsimp only [List.set, setL, List.eraseIdx, List.cons_append, List.nil_append, List.append_nil, Nat.zero_add, Nat.reduceAdd, Sl.v] at h
  rw [u64 (n := e.fl) (by omega)]
  have s2 := words_Put_spec h e.fl 2 false (by omega) (by omega)
  by_cases c4 : e.fl < 65536
  · have p2 : M.put e.fl 2 false = (M.leB e.fl.toNat 2, 0) := put_le e.fl 2 (by omega) (by omega)
    rw [p2] at s2
    refine t_callS (k := .tup [.S, .I]) (x := (mkB (M.leB e.fl.toNat 2), 0, ())) s2 fun w h => ?_
    repeat (first
      | refine t_tickS h fun w h => ?_
      | refine t_keepN ?_
      | refine t_ldB h 0 rfl rfl ?_
      | refine t_ldB h 1 rfl rfl ?_
      | refine t_ldB h 2 rfl rfl ?_
      | refine t_ldB h 3 rfl rfl ?_
      | refine t_ldB h 4 rfl rfl ?_
      | refine t_ldB h 5 rfl rfl ?_
      | refine t_ldB h 6 rfl rfl ?_
      | refine t_ldB h 7 rfl rfl ?_
      | refine t_ldB h 8 rfl rfl ?_
      | refine t_ldB h 9 rfl rfl ?_
      | refine t_ldO h 0 rfl rfl rfl ?_
      | refine t_ldO h 1 rfl rfl rfl ?_
      | refine t_ldO h 2 rfl rfl rfl ?_
      | refine t_ldO h 3 rfl rfl rfl ?_
      | refine t_ldO h 4 rfl rfl rfl ?_
      | refine t_ldO h 5 rfl rfl rfl ?_
      | refine t_ldO h 6 rfl rfl rfl ?_
      | refine t_ldO h 7 rfl rfl rfl ?_
      | refine t_ldO h 8 rfl rfl rfl ?_
      | refine t_ldO h 9 rfl rfl rfl ?_
      | refine t_keepB h 0 rfl rfl ?_
      | refine t_keepB h 1 rfl rfl ?_
      | refine t_keepB h 2 rfl rfl ?_
      | refine t_keepB h 3 rfl rfl ?_
      | refine t_keepB h 4 rfl rfl ?_
      | refine t_keepB h 5 rfl rfl ?_
      | refine t_keepB h 6 rfl rfl ?_
      | refine t_keepB h 7 rfl rfl ?_
      | refine t_keepB h 8 rfl rfl ?_
      | refine t_keepB h 9 rfl rfl ?_
      | (refine t_stB h 0 rfl (by simp [setL]) (by simp [Value.oneCell']) fun w h => ?_; try dsimp only [List.set, setL, List.eraseIdx, List.cons_append, List.nil_append, List.append_nil, Nat.zero_add, Nat.reduceAdd, Sl.v] at h)
      | (refine t_stB h 1 rfl (by simp [setL]) (by simp [Value.oneCell']) fun w h => ?_; try dsimp only [List.set, setL, List.eraseIdx, List.cons_append, List.nil_append, List.append_nil, Nat.zero_add, Nat.reduceAdd, Sl.v] at h)
      | (refine t_stB h 2 rfl (by simp [setL]) (by simp [Value.oneCell']) fun w h => ?_; try dsimp only [List.set, setL, List.eraseIdx, List.cons_append, List.nil_append, List.append_nil, Nat.zero_add, Nat.reduceAdd, Sl.v] at h)
      | (refine t_stB h 3 rfl (by simp [setL]) (by simp [Value.oneCell']) fun w h => ?_; try dsimp only [List.set, setL, List.eraseIdx, List.cons_append, List.nil_append, List.append_nil, Nat.zero_add, Nat.reduceAdd, Sl.v] at h)
      | (refine t_stB h 4 rfl (by simp [setL]) (by simp [Value.oneCell']) fun w h => ?_; try dsimp only [List.set, setL, List.eraseIdx, List.cons_append, List.nil_append, List.append_nil, Nat.zero_add, Nat.reduceAdd, Sl.v] at h)
      | (refine t_stB h 5 rfl (by simp [setL]) (by simp [Value.oneCell']) fun w h => ?_; try dsimp only [List.set, setL, List.eraseIdx, List.cons_append, List.nil_append, List.append_nil, Nat.zero_add, Nat.reduceAdd, Sl.v] at h)
      | (refine t_stB h 6 rfl (by simp [setL]) (by simp [Value.oneCell']) fun w h => ?_; try dsimp only [List.set, setL, List.eraseIdx, List.cons_append, List.nil_append, List.append_nil, Nat.zero_add, Nat.reduceAdd, Sl.v] at h)
      | (refine t_stB h 7 rfl (by simp [setL]) (by simp [Value.oneCell']) fun w h => ?_; try dsimp only [List.set, setL, List.eraseIdx, List.cons_append, List.nil_append, List.append_nil, Nat.zero_add, Nat.reduceAdd, Sl.v] at h)
      | (refine t_stB h 8 rfl (by simp [setL]) (by simp [Value.oneCell']) fun w h => ?_; try dsimp only [List.set, setL, List.eraseIdx, List.cons_append, List.nil_append, List.append_nil, Nat.zero_add, Nat.reduceAdd, Sl.v] at h)
      | (refine t_stB h 9 rfl (by simp [setL]) (by simp [Value.oneCell']) fun w h => ?_; try dsimp only [List.set, setL, List.eraseIdx, List.cons_append, List.nil_append, List.append_nil, Nat.zero_add, Nat.reduceAdd, Sl.v] at h)
      | refine t_newB h (by simp [Value.oneCell']) fun w b h hb => ?_
      | refine t_nil ?_
      | refine t_true rfl ?_
      | refine t_false rfl ?_
      | refine t_yes rfl ?_
      | refine t_nyes rfl ?_
      | refine t_no (by decide) ?_
      | refine t_nno (by decide) ?_
      | refine t_need (by decide) ?_)
    try dsimp only [List.set, setL, List.eraseIdx, List.cons_append, List.nil_append, List.append_nil, Nat.zero_add, Nat.reduceAdd, Sl.v] at h
    dsimp only
    refine t_need (by simp) (t_ret ⟨?_, h.drop⟩)
    have hok : e.ok := by unfold M.Ev.ok; omega
    rw [if_pos hok, if_pos hok, mkB_append]
    unfold M.evB
    rw [hx]
    rfl
  · have p2 : M.put e.fl 2 false = ([], 1) := by
      have : M.may e.fl 2 = false := by simp only [M.may, decide_eq_false_iff_not]; intro h; have := h.2.2; simp at this; omega
      simp [M.put, this]
    rw [p2] at s2
    refine t_callS (k := .tup [.S, .I]) (x := (mkB [], 1, ())) s2 fun w h => ?_
    exact t_nno (by decide) (t_ret (no h.drop (by unfold M.Ev.ok; omega)))
theorem eqSpot (s t : M.Spot) : eqDL [.I, .bool] (s.at_, s.wrap, ()) (t.at_, t.wrap, ()) = decide (s = t) := by
  simp only [eqDL, eqSc, Bool.and_true]
  rw [Bool.eq_iff_iff]
  simp [spot_ext]
theorem spot_Need_con (e : M.Ev) (s t : M.Spot) (size : Int) : Con Tryz.prog NoRo 45 #[Ev.v e, Spot.v s, Spot.v t, .int .i64 size] .B [] (M.spotNeed e.off e.wrap e.fl s t size) [] := by
  intro w0 W w B _ h
  refine spot_Need.calls (e.off, e.wrap, e.fl, ()) (s.at_, s.wrap, ()) (t.at_, t.wrap, ()) size ?_
  unfold spot_Need.T
  repeat (first
    | refine t_tickS h fun w h => ?_
    | refine t_keepN ?_
    | refine t_ldB h 0 rfl rfl ?_
    | refine t_ldB h 1 rfl rfl ?_
    | refine t_ldB h 2 rfl rfl ?_
    | refine t_ldB h 3 rfl rfl ?_
    | refine t_ldB h 4 rfl rfl ?_
    | refine t_ldB h 5 rfl rfl ?_
    | refine t_ldB h 6 rfl rfl ?_
    | refine t_ldB h 7 rfl rfl ?_
    | refine t_ldB h 8 rfl rfl ?_
    | refine t_ldB h 9 rfl rfl ?_
    | refine t_ldO h 0 rfl rfl rfl ?_
    | refine t_ldO h 1 rfl rfl rfl ?_
    | refine t_ldO h 2 rfl rfl rfl ?_
    | refine t_ldO h 3 rfl rfl rfl ?_
    | refine t_ldO h 4 rfl rfl rfl ?_
    | refine t_ldO h 5 rfl rfl rfl ?_
    | refine t_ldO h 6 rfl rfl rfl ?_
    | refine t_ldO h 7 rfl rfl rfl ?_
    | refine t_ldO h 8 rfl rfl rfl ?_
    | refine t_ldO h 9 rfl rfl rfl ?_
    | refine t_keepB h 0 rfl rfl ?_
    | refine t_keepB h 1 rfl rfl ?_
    | refine t_keepB h 2 rfl rfl ?_
    | refine t_keepB h 3 rfl rfl ?_
    | refine t_keepB h 4 rfl rfl ?_
    | refine t_keepB h 5 rfl rfl ?_
    | refine t_keepB h 6 rfl rfl ?_
    | refine t_keepB h 7 rfl rfl ?_
    | refine t_keepB h 8 rfl rfl ?_
    | refine t_keepB h 9 rfl rfl ?_
    | (refine t_stB h 0 rfl (by simp [setL]) (by simp [Value.oneCell']) fun w h => ?_; try dsimp only [List.set, setL, List.eraseIdx, List.cons_append, List.nil_append, List.append_nil, Nat.zero_add, Nat.reduceAdd, Sl.v] at h)
    | (refine t_stB h 1 rfl (by simp [setL]) (by simp [Value.oneCell']) fun w h => ?_; try dsimp only [List.set, setL, List.eraseIdx, List.cons_append, List.nil_append, List.append_nil, Nat.zero_add, Nat.reduceAdd, Sl.v] at h)
    | (refine t_stB h 2 rfl (by simp [setL]) (by simp [Value.oneCell']) fun w h => ?_; try dsimp only [List.set, setL, List.eraseIdx, List.cons_append, List.nil_append, List.append_nil, Nat.zero_add, Nat.reduceAdd, Sl.v] at h)
    | (refine t_stB h 3 rfl (by simp [setL]) (by simp [Value.oneCell']) fun w h => ?_; try dsimp only [List.set, setL, List.eraseIdx, List.cons_append, List.nil_append, List.append_nil, Nat.zero_add, Nat.reduceAdd, Sl.v] at h)
    | (refine t_stB h 4 rfl (by simp [setL]) (by simp [Value.oneCell']) fun w h => ?_; try dsimp only [List.set, setL, List.eraseIdx, List.cons_append, List.nil_append, List.append_nil, Nat.zero_add, Nat.reduceAdd, Sl.v] at h)
    | (refine t_stB h 5 rfl (by simp [setL]) (by simp [Value.oneCell']) fun w h => ?_; try dsimp only [List.set, setL, List.eraseIdx, List.cons_append, List.nil_append, List.append_nil, Nat.zero_add, Nat.reduceAdd, Sl.v] at h)
    | (refine t_stB h 6 rfl (by simp [setL]) (by simp [Value.oneCell']) fun w h => ?_; try dsimp only [List.set, setL, List.eraseIdx, List.cons_append, List.nil_append, List.append_nil, Nat.zero_add, Nat.reduceAdd, Sl.v] at h)
    | (refine t_stB h 7 rfl (by simp [setL]) (by simp [Value.oneCell']) fun w h => ?_; try dsimp only [List.set, setL, List.eraseIdx, List.cons_append, List.nil_append, List.append_nil, Nat.zero_add, Nat.reduceAdd, Sl.v] at h)
    | (refine t_stB h 8 rfl (by simp [setL]) (by simp [Value.oneCell']) fun w h => ?_; try dsimp only [List.set, setL, List.eraseIdx, List.cons_append, List.nil_append, List.append_nil, Nat.zero_add, Nat.reduceAdd, Sl.v] at h)
    | (refine t_stB h 9 rfl (by simp [setL]) (by simp [Value.oneCell']) fun w h => ?_; try dsimp only [List.set, setL, List.eraseIdx, List.cons_append, List.nil_append, List.append_nil, Nat.zero_add, Nat.reduceAdd, Sl.v] at h)
    | refine t_newB h (by simp [Value.oneCell']) fun w b h hb => ?_
    | refine t_nil ?_
    | refine t_true rfl ?_
    | refine t_false rfl ?_
    | refine t_yes rfl ?_
    | refine t_nyes rfl ?_
    | refine t_no (by decide) ?_
    | refine t_nno (by decide) ?_
    | refine t_need (by decide) ?_)
  try dsimp only [List.set, setL, List.eraseIdx, List.cons_append, List.nil_append, List.append_nil, Nat.zero_add, Nat.reduceAdd, Sl.v] at h
  first | refine t_fn (spot_Gap_con s t size) h (by repeat (first | exact Sub.nil _ | apply Sub.c0 | apply Sub.c1 | apply Sub.c2 | apply Sub.c3 | apply Sub.c4 | apply Sub.c5 | apply Sub.c6 | apply Sub.c7 | apply Sub.c8 | apply Sub.c9 | apply Sub.c10 | apply Sub.c11 | exact Sub.refl _)) noRo fun w h => ?_ | refine t_fnn (spot_Gap_con s t size) h (by repeat (first | exact Sub.nil _ | apply Sub.c0 | apply Sub.c1 | apply Sub.c2 | apply Sub.c3 | apply Sub.c4 | apply Sub.c5 | apply Sub.c6 | apply Sub.c7 | apply Sub.c8 | apply Sub.c9 | apply Sub.c10 | apply Sub.c11 | exact Sub.refl _)) noRo fun w h => ?_
  try dsimp only [List.set, setL, List.eraseIdx, List.cons_append, List.nil_append, List.append_nil, Nat.zero_add, Nat.reduceAdd, Sl.v] at h
  unfold M.spotNeed
  generalize M.spotGap s t size = g
  refine t_ifn (fun c1 => t_ret ⟨?_, h.weak (by repeat (first | exact Weak.refl _ | apply Weak.c0 | apply Weak.c1 | apply Weak.c2 | apply Weak.c3 | apply Weak.c4 | apply Weak.c5 | apply Weak.c6 | apply Weak.c7 | apply Weak.c8 | apply Weak.c9 | apply Weak.c10 | apply Weak.c11 | apply Weak.drop))⟩) (fun c1 => ?_)
  · rw [if_pos (.inl c1)]; rfl
  refine t_if (fun c2 => t_ret ⟨?_, h.weak (by repeat (first | exact Weak.refl _ | apply Weak.c0 | apply Weak.c1 | apply Weak.c2 | apply Weak.c3 | apply Weak.c4 | apply Weak.c5 | apply Weak.c6 | apply Weak.c7 | apply Weak.c8 | apply Weak.c9 | apply Weak.c10 | apply Weak.c11 | apply Weak.drop))⟩) (fun c2 => ?_)
  · rw [if_pos (.inr c2)]; rfl
  rw [if_neg (by rintro (c | c); exact c c1; exact c2 c)]
  repeat (first
    | refine t_tickS h fun w h => ?_
    | refine t_keepN ?_
    | refine t_ldB h 0 rfl rfl ?_
    | refine t_ldB h 1 rfl rfl ?_
    | refine t_ldB h 2 rfl rfl ?_
    | refine t_ldB h 3 rfl rfl ?_
    | refine t_ldB h 4 rfl rfl ?_
    | refine t_ldB h 5 rfl rfl ?_
    | refine t_ldB h 6 rfl rfl ?_
    | refine t_ldB h 7 rfl rfl ?_
    | refine t_ldB h 8 rfl rfl ?_
    | refine t_ldB h 9 rfl rfl ?_
    | refine t_ldO h 0 rfl rfl rfl ?_
    | refine t_ldO h 1 rfl rfl rfl ?_
    | refine t_ldO h 2 rfl rfl rfl ?_
    | refine t_ldO h 3 rfl rfl rfl ?_
    | refine t_ldO h 4 rfl rfl rfl ?_
    | refine t_ldO h 5 rfl rfl rfl ?_
    | refine t_ldO h 6 rfl rfl rfl ?_
    | refine t_ldO h 7 rfl rfl rfl ?_
    | refine t_ldO h 8 rfl rfl rfl ?_
    | refine t_ldO h 9 rfl rfl rfl ?_
    | refine t_keepB h 0 rfl rfl ?_
    | refine t_keepB h 1 rfl rfl ?_
    | refine t_keepB h 2 rfl rfl ?_
    | refine t_keepB h 3 rfl rfl ?_
    | refine t_keepB h 4 rfl rfl ?_
    | refine t_keepB h 5 rfl rfl ?_
    | refine t_keepB h 6 rfl rfl ?_
    | refine t_keepB h 7 rfl rfl ?_
    | refine t_keepB h 8 rfl rfl ?_
    | refine t_keepB h 9 rfl rfl ?_
    | (refine t_stB h 0 rfl (by simp [setL]) (by simp [Value.oneCell']) fun w h => ?_; try dsimp only [List.set, setL, List.eraseIdx, List.cons_append, List.nil_append, List.append_nil, Nat.zero_add, Nat.reduceAdd, Sl.v] at h)
    | (refine t_stB h 1 rfl (by simp [setL]) (by simp [Value.oneCell']) fun w h => ?_; try dsimp only [List.set, setL, List.eraseIdx, List.cons_append, List.nil_append, List.append_nil, Nat.zero_add, Nat.reduceAdd, Sl.v] at h)
    | (refine t_stB h 2 rfl (by simp [setL]) (by simp [Value.oneCell']) fun w h => ?_; try dsimp only [List.set, setL, List.eraseIdx, List.cons_append, List.nil_append, List.append_nil, Nat.zero_add, Nat.reduceAdd, Sl.v] at h)
    | (refine t_stB h 3 rfl (by simp [setL]) (by simp [Value.oneCell']) fun w h => ?_; try dsimp only [List.set, setL, List.eraseIdx, List.cons_append, List.nil_append, List.append_nil, Nat.zero_add, Nat.reduceAdd, Sl.v] at h)
    | (refine t_stB h 4 rfl (by simp [setL]) (by simp [Value.oneCell']) fun w h => ?_; try dsimp only [List.set, setL, List.eraseIdx, List.cons_append, List.nil_append, List.append_nil, Nat.zero_add, Nat.reduceAdd, Sl.v] at h)
    | (refine t_stB h 5 rfl (by simp [setL]) (by simp [Value.oneCell']) fun w h => ?_; try dsimp only [List.set, setL, List.eraseIdx, List.cons_append, List.nil_append, List.append_nil, Nat.zero_add, Nat.reduceAdd, Sl.v] at h)
    | (refine t_stB h 6 rfl (by simp [setL]) (by simp [Value.oneCell']) fun w h => ?_; try dsimp only [List.set, setL, List.eraseIdx, List.cons_append, List.nil_append, List.append_nil, Nat.zero_add, Nat.reduceAdd, Sl.v] at h)
    | (refine t_stB h 7 rfl (by simp [setL]) (by simp [Value.oneCell']) fun w h => ?_; try dsimp only [List.set, setL, List.eraseIdx, List.cons_append, List.nil_append, List.append_nil, Nat.zero_add, Nat.reduceAdd, Sl.v] at h)
    | (refine t_stB h 8 rfl (by simp [setL]) (by simp [Value.oneCell']) fun w h => ?_; try dsimp only [List.set, setL, List.eraseIdx, List.cons_append, List.nil_append, List.append_nil, Nat.zero_add, Nat.reduceAdd, Sl.v] at h)
    | (refine t_stB h 9 rfl (by simp [setL]) (by simp [Value.oneCell']) fun w h => ?_; try dsimp only [List.set, setL, List.eraseIdx, List.cons_append, List.nil_append, List.append_nil, Nat.zero_add, Nat.reduceAdd, Sl.v] at h)
    | refine t_newB h (by simp [Value.oneCell']) fun w b h hb => ?_
    | refine t_nil ?_
    | refine t_true rfl ?_
    | refine t_false rfl ?_
    | refine t_yes rfl ?_
    | refine t_nyes rfl ?_
    | refine t_no (by decide) ?_
    | refine t_nno (by decide) ?_
    | refine t_need (by decide) ?_)
  try dsimp only [List.set, setL, List.eraseIdx, List.cons_append, List.nil_append, List.append_nil, Nat.zero_add, Nat.reduceAdd, Sl.v] at h
  refine t_if (fun c3 => ?_) (fun c3 => ?_)
  · rw [if_pos c3]
    repeat (first
      | refine t_tickS h fun w h => ?_
      | refine t_keepN ?_
      | refine t_ldB h 0 rfl rfl ?_
      | refine t_ldB h 1 rfl rfl ?_
      | refine t_ldB h 2 rfl rfl ?_
      | refine t_ldB h 3 rfl rfl ?_
      | refine t_ldB h 4 rfl rfl ?_
      | refine t_ldB h 5 rfl rfl ?_
      | refine t_ldB h 6 rfl rfl ?_
      | refine t_ldB h 7 rfl rfl ?_
      | refine t_ldB h 8 rfl rfl ?_
      | refine t_ldB h 9 rfl rfl ?_
      | refine t_ldO h 0 rfl rfl rfl ?_
      | refine t_ldO h 1 rfl rfl rfl ?_
      | refine t_ldO h 2 rfl rfl rfl ?_
      | refine t_ldO h 3 rfl rfl rfl ?_
      | refine t_ldO h 4 rfl rfl rfl ?_
      | refine t_ldO h 5 rfl rfl rfl ?_
      | refine t_ldO h 6 rfl rfl rfl ?_
      | refine t_ldO h 7 rfl rfl rfl ?_
      | refine t_ldO h 8 rfl rfl rfl ?_
      | refine t_ldO h 9 rfl rfl rfl ?_
      | refine t_keepB h 0 rfl rfl ?_
      | refine t_keepB h 1 rfl rfl ?_
      | refine t_keepB h 2 rfl rfl ?_
      | refine t_keepB h 3 rfl rfl ?_
      | refine t_keepB h 4 rfl rfl ?_
      | refine t_keepB h 5 rfl rfl ?_
      | refine t_keepB h 6 rfl rfl ?_
      | refine t_keepB h 7 rfl rfl ?_
      | refine t_keepB h 8 rfl rfl ?_
      | refine t_keepB h 9 rfl rfl ?_
      | (refine t_stB h 0 rfl (by simp [setL]) (by simp [Value.oneCell']) fun w h => ?_; try dsimp only [List.set, setL, List.eraseIdx, List.cons_append, List.nil_append, List.append_nil, Nat.zero_add, Nat.reduceAdd, Sl.v] at h)
      | (refine t_stB h 1 rfl (by simp [setL]) (by simp [Value.oneCell']) fun w h => ?_; try dsimp only [List.set, setL, List.eraseIdx, List.cons_append, List.nil_append, List.append_nil, Nat.zero_add, Nat.reduceAdd, Sl.v] at h)
      | (refine t_stB h 2 rfl (by simp [setL]) (by simp [Value.oneCell']) fun w h => ?_; try dsimp only [List.set, setL, List.eraseIdx, List.cons_append, List.nil_append, List.append_nil, Nat.zero_add, Nat.reduceAdd, Sl.v] at h)
      | (refine t_stB h 3 rfl (by simp [setL]) (by simp [Value.oneCell']) fun w h => ?_; try dsimp only [List.set, setL, List.eraseIdx, List.cons_append, List.nil_append, List.append_nil, Nat.zero_add, Nat.reduceAdd, Sl.v] at h)
      | (refine t_stB h 4 rfl (by simp [setL]) (by simp [Value.oneCell']) fun w h => ?_; try dsimp only [List.set, setL, List.eraseIdx, List.cons_append, List.nil_append, List.append_nil, Nat.zero_add, Nat.reduceAdd, Sl.v] at h)
      | (refine t_stB h 5 rfl (by simp [setL]) (by simp [Value.oneCell']) fun w h => ?_; try dsimp only [List.set, setL, List.eraseIdx, List.cons_append, List.nil_append, List.append_nil, Nat.zero_add, Nat.reduceAdd, Sl.v] at h)
      | (refine t_stB h 6 rfl (by simp [setL]) (by simp [Value.oneCell']) fun w h => ?_; try dsimp only [List.set, setL, List.eraseIdx, List.cons_append, List.nil_append, List.append_nil, Nat.zero_add, Nat.reduceAdd, Sl.v] at h)
      | (refine t_stB h 7 rfl (by simp [setL]) (by simp [Value.oneCell']) fun w h => ?_; try dsimp only [List.set, setL, List.eraseIdx, List.cons_append, List.nil_append, List.append_nil, Nat.zero_add, Nat.reduceAdd, Sl.v] at h)
      | (refine t_stB h 8 rfl (by simp [setL]) (by simp [Value.oneCell']) fun w h => ?_; try dsimp only [List.set, setL, List.eraseIdx, List.cons_append, List.nil_append, List.append_nil, Nat.zero_add, Nat.reduceAdd, Sl.v] at h)
      | (refine t_stB h 9 rfl (by simp [setL]) (by simp [Value.oneCell']) fun w h => ?_; try dsimp only [List.set, setL, List.eraseIdx, List.cons_append, List.nil_append, List.append_nil, Nat.zero_add, Nat.reduceAdd, Sl.v] at h)
      | refine t_newB h (by simp [Value.oneCell']) fun w b h hb => ?_
      | refine t_nil ?_
      | refine t_true rfl ?_
      | refine t_false rfl ?_
      | refine t_yes rfl ?_
      | refine t_nyes rfl ?_
      | refine t_no (by decide) ?_
      | refine t_nno (by decide) ?_
      | refine t_need (by decide) ?_)
    try dsimp only [List.set, setL, List.eraseIdx, List.cons_append, List.nil_append, List.append_nil, Nat.zero_add, Nat.reduceAdd, Sl.v] at h
    refine t_neS (l := [.I, .bool]) (s.at_, s.wrap, ()) (t.at_, t.wrap, ()) flatSpot (t_ret ⟨?_, h.weak (by repeat (first | exact Weak.refl _ | apply Weak.c0 | apply Weak.c1 | apply Weak.c2 | apply Weak.c3 | apply Weak.c4 | apply Weak.c5 | apply Weak.c6 | apply Weak.c7 | apply Weak.c8 | apply Weak.c9 | apply Weak.c10 | apply Weak.c11 | apply Weak.drop))⟩)
    rw [eqSpot]; simp [Rk.v, Kd.v, Sc.v]
  rw [if_neg c3]
  refine t_if (fun c4 => ?_) (fun c4 => t_ret ⟨?_, h.weak (by repeat (first | exact Weak.refl _ | apply Weak.c0 | apply Weak.c1 | apply Weak.c2 | apply Weak.c3 | apply Weak.c4 | apply Weak.c5 | apply Weak.c6 | apply Weak.c7 | apply Weak.c8 | apply Weak.c9 | apply Weak.c10 | apply Weak.c11 | apply Weak.drop))⟩)
  · rw [if_pos c4]
    repeat (first
      | refine t_tickS h fun w h => ?_
      | refine t_keepN ?_
      | refine t_ldB h 0 rfl rfl ?_
      | refine t_ldB h 1 rfl rfl ?_
      | refine t_ldB h 2 rfl rfl ?_
      | refine t_ldB h 3 rfl rfl ?_
      | refine t_ldB h 4 rfl rfl ?_
      | refine t_ldB h 5 rfl rfl ?_
      | refine t_ldB h 6 rfl rfl ?_
      | refine t_ldB h 7 rfl rfl ?_
      | refine t_ldB h 8 rfl rfl ?_
      | refine t_ldB h 9 rfl rfl ?_
      | refine t_ldO h 0 rfl rfl rfl ?_
      | refine t_ldO h 1 rfl rfl rfl ?_
      | refine t_ldO h 2 rfl rfl rfl ?_
      | refine t_ldO h 3 rfl rfl rfl ?_
      | refine t_ldO h 4 rfl rfl rfl ?_
      | refine t_ldO h 5 rfl rfl rfl ?_
      | refine t_ldO h 6 rfl rfl rfl ?_
      | refine t_ldO h 7 rfl rfl rfl ?_
      | refine t_ldO h 8 rfl rfl rfl ?_
      | refine t_ldO h 9 rfl rfl rfl ?_
      | refine t_keepB h 0 rfl rfl ?_
      | refine t_keepB h 1 rfl rfl ?_
      | refine t_keepB h 2 rfl rfl ?_
      | refine t_keepB h 3 rfl rfl ?_
      | refine t_keepB h 4 rfl rfl ?_
      | refine t_keepB h 5 rfl rfl ?_
      | refine t_keepB h 6 rfl rfl ?_
      | refine t_keepB h 7 rfl rfl ?_
      | refine t_keepB h 8 rfl rfl ?_
      | refine t_keepB h 9 rfl rfl ?_
      | (refine t_stB h 0 rfl (by simp [setL]) (by simp [Value.oneCell']) fun w h => ?_; try dsimp only [List.set, setL, List.eraseIdx, List.cons_append, List.nil_append, List.append_nil, Nat.zero_add, Nat.reduceAdd, Sl.v] at h)
      | (refine t_stB h 1 rfl (by simp [setL]) (by simp [Value.oneCell']) fun w h => ?_; try dsimp only [List.set, setL, List.eraseIdx, List.cons_append, List.nil_append, List.append_nil, Nat.zero_add, Nat.reduceAdd, Sl.v] at h)
      | (refine t_stB h 2 rfl (by simp [setL]) (by simp [Value.oneCell']) fun w h => ?_; try dsimp only [List.set, setL, List.eraseIdx, List.cons_append, List.nil_append, List.append_nil, Nat.zero_add, Nat.reduceAdd, Sl.v] at h)
      | (refine t_stB h 3 rfl (by simp [setL]) (by simp [Value.oneCell']) fun w h => ?_; try dsimp only [List.set, setL, List.eraseIdx, List.cons_append, List.nil_append, List.append_nil, Nat.zero_add, Nat.reduceAdd, Sl.v] at h)
      | (refine t_stB h 4 rfl (by simp [setL]) (by simp [Value.oneCell']) fun w h => ?_; try dsimp only [List.set, setL, List.eraseIdx, List.cons_append, List.nil_append, List.append_nil, Nat.zero_add, Nat.reduceAdd, Sl.v] at h)
      | (refine t_stB h 5 rfl (by simp [setL]) (by simp [Value.oneCell']) fun w h => ?_; try dsimp only [List.set, setL, List.eraseIdx, List.cons_append, List.nil_append, List.append_nil, Nat.zero_add, Nat.reduceAdd, Sl.v] at h)
      | (refine t_stB h 6 rfl (by simp [setL]) (by simp [Value.oneCell']) fun w h => ?_; try dsimp only [List.set, setL, List.eraseIdx, List.cons_append, List.nil_append, List.append_nil, Nat.zero_add, Nat.reduceAdd, Sl.v] at h)
      | (refine t_stB h 7 rfl (by simp [setL]) (by simp [Value.oneCell']) fun w h => ?_; try dsimp only [List.set, setL, List.eraseIdx, List.cons_append, List.nil_append, List.append_nil, Nat.zero_add, Nat.reduceAdd, Sl.v] at h)
      | (refine t_stB h 8 rfl (by simp [setL]) (by simp [Value.oneCell']) fun w h => ?_; try dsimp only [List.set, setL, List.eraseIdx, List.cons_append, List.nil_append, List.append_nil, Nat.zero_add, Nat.reduceAdd, Sl.v] at h)
      | (refine t_stB h 9 rfl (by simp [setL]) (by simp [Value.oneCell']) fun w h => ?_; try dsimp only [List.set, setL, List.eraseIdx, List.cons_append, List.nil_append, List.append_nil, Nat.zero_add, Nat.reduceAdd, Sl.v] at h)
      | refine t_newB h (by simp [Value.oneCell']) fun w b h hb => ?_
      | refine t_nil ?_
      | refine t_true rfl ?_
      | refine t_false rfl ?_
      | refine t_yes rfl ?_
      | refine t_nyes rfl ?_
      | refine t_no (by decide) ?_
      | refine t_nno (by decide) ?_
      | refine t_need (by decide) ?_)
    try dsimp only [List.set, setL, List.eraseIdx, List.cons_append, List.nil_append, List.append_nil, Nat.zero_add, Nat.reduceAdd, Sl.v] at h
    first | refine t_fn (spot_Gap_con s ⟨e.off, e.wrap⟩ size) h (by repeat (first | exact Sub.nil _ | apply Sub.c0 | apply Sub.c1 | apply Sub.c2 | apply Sub.c3 | apply Sub.c4 | apply Sub.c5 | apply Sub.c6 | apply Sub.c7 | apply Sub.c8 | apply Sub.c9 | apply Sub.c10 | apply Sub.c11 | exact Sub.refl _)) noRo fun w h => ?_ | refine t_fnn (spot_Gap_con s ⟨e.off, e.wrap⟩ size) h (by repeat (first | exact Sub.nil _ | apply Sub.c0 | apply Sub.c1 | apply Sub.c2 | apply Sub.c3 | apply Sub.c4 | apply Sub.c5 | apply Sub.c6 | apply Sub.c7 | apply Sub.c8 | apply Sub.c9 | apply Sub.c10 | apply Sub.c11 | exact Sub.refl _)) noRo fun w h => ?_
    try dsimp only [List.set, setL, List.eraseIdx, List.cons_append, List.nil_append, List.append_nil, Nat.zero_add, Nat.reduceAdd, Sl.v] at h
    refine t_if (fun c5 => t_ret ⟨?_, h.weak (by repeat (first | exact Weak.refl _ | apply Weak.c0 | apply Weak.c1 | apply Weak.c2 | apply Weak.c3 | apply Weak.c4 | apply Weak.c5 | apply Weak.c6 | apply Weak.c7 | apply Weak.c8 | apply Weak.c9 | apply Weak.c10 | apply Weak.c11 | apply Weak.drop))⟩) (fun c5 => t_ret ⟨?_, h.weak (by repeat (first | exact Weak.refl _ | apply Weak.c0 | apply Weak.c1 | apply Weak.c2 | apply Weak.c3 | apply Weak.c4 | apply Weak.c5 | apply Weak.c6 | apply Weak.c7 | apply Weak.c8 | apply Weak.c9 | apply Weak.c10 | apply Weak.c11 | apply Weak.drop))⟩)
    · have c6 : (M.spotGap s ⟨e.off, e.wrap⟩ size).2 = 0 := c5
      simp only [c6, true_and]; rfl
    · have c6 : ¬ (M.spotGap s ⟨e.off, e.wrap⟩ size).2 = 0 := c5
      simp only [c6, false_and]; rfl
  · rw [if_neg c4]; rfl
end
end Go.Proofs.YthfcneahnldgnaaGreat
