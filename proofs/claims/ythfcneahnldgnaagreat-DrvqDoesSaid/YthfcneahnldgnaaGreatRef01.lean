/- The reference's words: contracts, to the same model. -/
import Derived.Test.YthfcneahnldgnaaGreatWords
namespace Go.Proofs.YthfcneahnldgnaaGreat
open Go Vk
set_option linter.unusedSimpArgs false
set_option linter.unusedVariables false
section
variable {w0 w : World} {W : List Nat} {B : List Res}

theorem leB_succ (v k : Nat) : M.leB v (k + 1) = M.leB v k ++ [UInt8.ofNat (M.byteAt v k)] := by simp [M.leB, List.range_succ]
theorem beB_succ (v k : Nat) : M.beB v (k + 1) = UInt8.ofNat (M.byteAt v k) :: M.beB v k := by simp [M.beB, leB_succ]
@[simp] theorem leB_length (v k : Nat) : (M.leB v k).length = k := by simp [M.leB]
@[simp] theorem beB_length (v k : Nat) : (M.beB v k).length = k := by simp [M.beB]

theorem t_strB {P : Program} {R : Ending → World → Prop} {Ks : Conts} {src dst : TypeId} {b E c n : Nat} {l : List UInt8} {k : ByteArray → Tr} {Rs : List Res} (hb : isBytesT P src dst = true) (h : St w0 W w Rs) (i : Nat) (hi : Rs[i]? = some (blkR b (u8s l) E)) (hn : n = l.length) (hc : l.length ≤ c) (hk : (k (mkB l)).wp P R Ks w) :
    (Tr.sem (convert src dst (.slice (some ⟨b, 0, none⟩) n c)) .S k).wp P R Ks w := by
  subst hn
  exact t_sem (k := .S) _ (run_str_blk hb (h.blk i hi) hc) hk

theorem R1_Put_spec (h : St w0 W w B) (x0 x1 : Int) (big : Bool) (h0 : 0 ≤ x0) (h1 : x0 < 18446744073709551616) :
    Calls Tryz.prog 66 #[.int .u64 x0, .int .i64 x1, .bool big] w fun e w' => e = .returned (.tuple #[.string (mkB (M.put x0 x1 big).1), .int .i64 (M.put x0 x1 big).2]) ∧ St w0 W w' B := by
  refine aqueductref01_Put.calls _ _ _ ?_
  unfold aqueductref01_Put.T
  refine t_if (fun c1 => t_ret ⟨?_, h⟩) (fun c1 => ?_)
  · have : M.may x0 x1 = false := by simp [M.may]; omega
    simp [M.put, this, mkB]
  refine t_if (fun c2 => t_ret ⟨?_, h⟩) (fun c2 => ?_)
  · have : M.may x0 x1 = false := by simp [M.may]; omega
    simp [M.put, this, mkB]
  obtain ⟨n, rfl⟩ := Int.eq_ofNat_of_zero_le (show 0 ≤ x1 by omega)
  obtain ⟨v, rfl⟩ := Int.eq_ofNat_of_zero_le h0
  refine t_loop (fun m st w' => ∃ k : Nat, k ≤ n ∧ m = n - k ∧ st = (((v / 256 ^ k : Nat) : Int), mkB (M.leB v k), mkB (M.beB v k), (k : Int), ()) ∧ St w0 W w' B) n ⟨0, by omega, rfl, by simp [M.leB, M.beB, mkB], h⟩ ?_
  rintro m st w ⟨k, hk, rfl, rfl, h⟩ Ks hJ _
  dsimp only
  have hle : v / 256 ^ k ≤ v := Nat.div_le_self _ _
  have hby : M.byteAt v k = v / 256 ^ k % 256 := rfl
  have hnx : v / 256 ^ (k + 1) = v / 256 ^ k / 256 := by rw [Nat.pow_succ, ← Nat.div_div_eq_div_mul]
  have hz : v / 256 ^ k = 0 ↔ v < 256 ^ k := by
    have hpos : 0 < 256 ^ k := Nat.pow_pos (by omega)
    rw [Nat.div_eq_zero_iff]; omega
  generalize hq : v / 256 ^ k = q at *
  refine t_if (fun hc => ?_) (fun hc => ?_)
  · refine t_need (by omega) (t_newB h (by simp [Value.oneCell']) fun w b h hb => ?_)
    have hbyte : Value.int .u8 (IntKind.u8.wrap (Int.tmod (q : Int) 256)) = .int .u8 ((UInt8.ofNat (M.byteAt v k)).toNat : Int) := by
      rw [IntWalk.rem_in _ _ (by omega), wrap_u8, hby]
      simp
    rw [hbyte] at h
    refine t_strB (l := [UInt8.ofNat (M.byteAt v k)]) bytesT h 0 rfl rfl (by simp) ?_
    refine t_need (by simp; omega) (t_need (by simp; omega) (t_need (by omega) ?_))
    rw [mkB_append, mkB_append, ← leB_succ, List.singleton_append, ← beB_succ, IntWalk.u64_quo _ _ (by omega), w64 (n := (k : Int) + 1) (by omega)]
    refine t_next (hJ (n - (k + 1)) (((v / 256 ^ (k + 1) : Nat) : Int), mkB (M.leB v (k + 1)), mkB (M.beB v (k + 1)), ((k + 1 : Nat) : Int), ()) w (by omega) ⟨k + 1, by omega, rfl, rfl, h.drop⟩ |> fun H => ?_)
    have e : ((v / 256 ^ (k + 1) : Nat) : Int) = (q : Int) / 256 := by rw [hnx]; omega
    rw [e] at H
    exact H
  · have hke : k = n := by omega
    subst hke
    have hp : (2 : Nat) ^ (8 * k) = 256 ^ k := by rw [Nat.pow_mul]
    rw [← hp] at hz
    have hm : M.may (v : Int) (k : Int) = decide (v < 2 ^ (8 * k)) := by
      simp only [M.may, Int.toNat_natCast, decide_eq_decide]
      constructor
      · rintro ⟨_, _, h3⟩; exact_mod_cast h3
      · intro h3; exact ⟨by omega, by omega, by exact_mod_cast h3⟩
    refine t_if (fun hc => t_ret ⟨?_, h⟩) (fun hc => ?_)
    · have : ¬ (v < 2 ^ (8 * k)) := by rw [← hz]; omega
      simp [M.put, hm, this, mkB]
    · have hlt : v < 2 ^ (8 * k) := by rw [← hz]; omega
      refine t_cond (fun hb => t_ret ⟨?_, h⟩) (fun hb => t_ret ⟨?_, h⟩)
      · simp [M.put, hm, hlt, hb]
      · simp [M.put, hm, hlt, hb]
end
end Go.Proofs.YthfcneahnldgnaaGreat
