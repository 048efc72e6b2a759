/- The drvq statements' own helper: laid. -/
import Derived.Test.YthfcneahnldgnaaGreatRef15New
import Derived.Test.YthfcneahnldgnaaGreatTreesL
namespace Go.Proofs.YthfcneahnldgnaaGreat
open Go Vk
set_option linter.unusedSimpArgs false
set_option linter.unusedVariables false
namespace M
def stood : List UInt8 := List.replicate 30 0 ++ [119, 104, 97, 116, 32, 115, 116, 111, 111, 100, 32, 116, 104, 101, 114, 101]
def laidLen (n : Int) : Nat := (imx 64 (imn n 2048)).toNat
def laid0 (n : Int) : List UInt8 := writeM (List.replicate (laidLen n) 0) 0 stood
def laidMem (n : Int) (y : Lay) : List UInt8 := if layCheck (laid0 n).length y = 0 then newMem (laid0 n) y else laid0 n
end M
theorem laidLen_le (n : Int) : 64 ≤ M.laidLen n ∧ M.laidLen n ≤ 2048 ∧ imx 64 (imn n 2048) = (M.laidLen n : Nat) := by
  unfold M.laidLen imx imn
  split <;> split <;> omega
theorem laid0_length (n : Int) : (M.laid0 n).length = M.laidLen n := by
  have h := laidLen_le n
  have hs : M.stood.length = 46 := by decide
  have hm : M.mayAt (List.replicate (M.laidLen n) (0 : UInt8)).length 0 M.stood.length = true := by simp [M.mayAt, hs]; omega
  unfold M.laid0 M.writeM M.write
  rw [if_pos hm]
  dsimp only
  rw [wr_length _ _ _ (by rw [hs]; simp; omega)]
  simp
section
variable {w0 w : World} {W : List Nat} {B : List Res}
theorem laid_spec (h : St w0 W w B) (n : Int) (y : M.Lay) (sl : Sl) (h1 : i64R y.ring) (h2 : i64R y.size) (h3 : i64R y.drv) (h4 : i64R y.dev) :
    Calls Tryz.prog 4 #[.agg #[.int .i64 n, .int .i64 y.ring, .int .i64 y.size, .int .i64 y.drv, .int .i64 y.dev, Sl.v sl]] w fun e w' => ∃ mb kb,
      if M.layCheck (M.laid0 n).length y = 0 then ∃ qb xb, e = .returned (.tuple #[.pointer (some ⟨mb, 0, none⟩), .pointer (some ⟨qb, 0, none⟩), .pointer (some ⟨xb, 0, none⟩), .bool true]) ∧
        St w0 W w' (dqR qb mb (M.newQ y) :: memR mb (M.newMem (M.laid0 n) y) :: kqR xb kb (M.newK y) :: memK kb (M.newMem (M.laid0 n) y) :: B)
      else e = .returned (.tuple #[.pointer (some ⟨mb, 0, none⟩), .pointer none, .pointer none, .bool true]) ∧ St w0 W w' (memR mb (M.laid0 n) :: memK kb (M.laid0 n) :: B) := by
  refine aqueductlaw15_laid.calls (n, y.ring, y.size, y.drv, y.dev, sl, ()) ?_
  unfold aqueductlaw15_laid.T
  dsimp only
  have hL := laidLen_le n
  refine t_newB h (by simp [Value.oneCell']) fun w a h ha => ?_
  refine t_ldB h 0 rfl rfl ?_
  rw [hL.2.2]
  refine t_call (gmem_New_spec h (M.laidLen n : Nat)) fun e w he => ?_
  rw [if_neg (by omega)] at he
  obtain ⟨mb, rfl, h⟩ := he
  refine ⟨(some ⟨mb, 0, none⟩, 0, ()), rfl, ?_⟩
  refine t_call (R4_New_spec h (M.laidLen n : Nat)) fun e w he => ?_
  rw [if_neg (by omega)] at he
  obtain ⟨kb, rfl, h⟩ := he
  refine ⟨(some ⟨kb, 0, none⟩, 0, ()), rfl, ?_⟩
  refine t_false rfl (t_false rfl (t_nyes rfl (t_nyes rfl ?_)))
  refine t_make h slI_bytes rfl (by omega) (by omega) (by omega) fun s w hsn hsc hsa h => ?_
  rw [zeroRow_u8] at h
  refine t_str bytesT h 0 rfl ?_
  replace h := h.drop
  have hst : (⟨(List.replicate (30 : Int).toNat (0 : UInt8)).toArray⟩ : ByteArray) ++ ByteArray.mk #[(119 : UInt8), (104 : UInt8), (97 : UInt8), (116 : UInt8), (32 : UInt8), (115 : UInt8), (116 : UInt8), (111 : UInt8), (111 : UInt8), (100 : UInt8), (32 : UInt8), (116 : UInt8), (104 : UInt8), (101 : UInt8), (114 : UInt8), (101 : UInt8)] = mkB M.stood := mkB_append _ _
  rw [hst]
  refine t_need (by decide) ?_
  have hs : M.stood.length = 46 := by decide
  have hm : M.mayAt (List.replicate (M.laidLen n) (0 : UInt8)).length 0 M.stood.length = true := by simp [M.mayAt, hs]; omega
  have hw : (M.write (List.replicate (M.laidLen n) (0 : UInt8)) 0 M.stood).2 = 0 := by unfold M.write; rw [if_pos hm]
  have hlen := laid0_length n
  rw [Int.toNat_natCast] at h
  have s1 := gmem_Write_spec' h.swap 0 M.stood (by omega) (by rw [hs]; omega)
  rw [hw] at s1
  refine t_callS (k := .I) (x := (0 : Int)) s1 fun w h => ?_
  refine t_nyes rfl ?_
  have s2 := R4_Write_spec' h.swap 0 M.stood (by omega) (by rw [hs]; omega)
  rw [hw] at s2
  refine t_callS (k := .I) (x := (0 : Int)) s2 fun w h => ?_
  refine t_nyes rfl ?_
  change St w0 W w (memK kb (M.laid0 n) :: memR mb (M.laid0 n) :: _) at h
  refine t_ldB h 2 rfl rfl ?_
  refine t_call (drvq_New_spec h.swap (by omega) y h1 h2 h3 h4) fun e w he => ?_
  by_cases hc : M.layCheck (M.laid0 n).length y = 0
  · rw [if_pos hc] at he
    obtain ⟨qb, rfl, h⟩ := he
    refine ⟨(some ⟨qb, 0, none⟩, 0, ()), rfl, ?_⟩
    refine t_ldB h 3 rfl rfl ?_
    refine t_call (R15_New_spec (St.rot2 h) (by omega) y h1 h2 h3 h4) fun e w he => ?_
    rw [if_pos hc] at he
    obtain ⟨xb, rfl, h⟩ := he
    refine ⟨(some ⟨xb, 0, none⟩, 0, ()), rfl, t_tickS h fun w h => ?_⟩
    refine t_yes rfl (t_true rfl (t_nil ?_))
    obtain ⟨ag, lg, cs, hl1, hl3, hl4, h⟩ := memK_open h.swap
    refine t_ldB (x := mkB (M.newMem (M.laid0 n) y)) h 0 rfl rfl ?_
    refine t_callnS (k := .S) (x := mkB (M.newMem (M.laid0 n) y)) (gmem_Image_spec (h.pick 4 rfl)) fun w h => ?_
    refine t_keepB h 1 rfl rfl (t_keepN (t_ret ⟨mb, kb, ?_⟩))
    rw [if_pos hc]
    refine ⟨qb, xb, by simp [Rk.v, Kd.v, Sc.v], ?_⟩
    have h := memK_close hl1 hl3 hl4 (St.unrot2 h)
    exact ((((h.pick 2 rfl).pick 2 rfl).pick 3 rfl).dropAt 4 (by simp))
  · rw [if_neg hc] at he
    obtain ⟨rfl, h⟩ := he
    refine ⟨(none, M.layCheck (M.laid0 n).length y, ()), rfl, ?_⟩
    refine t_ldB h 2 rfl rfl ?_
    refine t_call (R15_New_spec h.swap (by omega) y h1 h2 h3 h4) fun e w he => ?_
    rw [if_neg hc] at he
    obtain ⟨rfl, h⟩ := he
    refine ⟨(none, M.layCheck (M.laid0 n).length y, ()), rfl, t_tickS h fun w h => ?_⟩
    refine t_yes rfl (t_true rfl (t_nil ?_))
    obtain ⟨ag, lg, cs, hl1, hl3, hl4, h⟩ := memK_open h
    refine t_ldB (x := mkB (M.laid0 n)) h 0 rfl rfl ?_
    refine t_callnS (k := .S) (x := mkB (M.laid0 n)) (gmem_Image_spec (h.pick 2 rfl)) fun w h => ?_
    refine t_keepB h 1 rfl rfl (t_keepN (t_ret ⟨mb, kb, ?_⟩))
    rw [if_neg hc]
    refine ⟨by simp [Rk.v, Kd.v, Sc.v], ?_⟩
    have h := memK_close hl1 hl3 hl4 (St.unrot2 h)
    exact (h.swap.dropAt 2 (by simp))
end
end Go.Proofs.YthfcneahnldgnaaGreat
