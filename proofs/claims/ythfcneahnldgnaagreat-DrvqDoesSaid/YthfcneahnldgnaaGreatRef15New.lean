/- The reference's queue: New. -/
import Derived.Test.YthfcneahnldgnaaGreatDrvqNew
import Derived.Test.YthfcneahnldgnaaGreatRef15
namespace Go.Proofs.YthfcneahnldgnaaGreat
open Go Vk
set_option linter.unusedSimpArgs false
set_option linter.unusedVariables false
namespace M
structure KQ where
  l : Lay
  nx : Spot
  bk : Spot
  told : Spot
  since : Int
  sizes : List Int
def newK (y : Lay) : KQ := ⟨y, ⟨0, true⟩, ⟨0, true⟩, ⟨0, true⟩, 0, List.replicate y.size.toNat 0⟩
end M
theorem slI_ints : slI Tryz.prog 46 = some (3, 1, 8, .int .i64 0) := by kernel_rfl
theorem zeroRow_int (n : Nat) : zeroRow (Value.int .i64 0).cells.toList n = intsV (List.replicate n 0) := by
  induction n with
  | zero => rfl
  | succ n ih => simp only [zeroRow, ih, intsV, List.replicate_succ]; rfl
section
variable {w0 w : World} {W : List Nat} {B : List Res}
def kqR (b mb : Nat) (q : M.KQ) : Res := exR fun s : Sl =>
  allR [blkR b [.pointer (some ⟨mb, 0, none⟩), .int .i64 q.l.ring, .int .i64 q.l.size, .int .i64 q.l.drv, .int .i64 q.l.dev, .int .i64 q.nx.at_, .bool q.nx.wrap, .int .i64 q.bk.at_, .bool q.bk.wrap, .int .i64 q.told.at_, .bool q.told.wrap, .int .i64 q.since, Sl.v s] 48, ownR s 3 1 (intsV q.sizes)]
theorem R4_Write_spec' {b : Nat} {l : List UInt8} (h : St w0 W w (memK b l :: B)) (at_ : Int) (t : List UInt8) (h1 : -9223372036854775808 ≤ at_ ∧ at_ ≤ 9223372036854775807) (h2 : t.length ≤ 140737488355328) :
    Calls Tryz.prog 12 #[.pointer (some ⟨b, 0, none⟩), .int .i64 at_, .string (mkB t)] w fun e w' => e = .returned (.int .i64 (M.write l at_ t).2) ∧ St w0 W w' (memK b (M.writeM l at_ t) :: B) := R4_Write_spec h at_ t h1 h2
theorem R15_New_spec {mb : Nat} {l : List UInt8} (h : St w0 W w (memK mb l :: B)) (hl : l.length ≤ 1048576) (y : M.Lay) (h1 : i64R y.ring) (h2 : i64R y.size) (h3 : i64R y.drv) (h4 : i64R y.dev) :
    Calls Tryz.prog 25 #[.pointer (some ⟨mb, 0, none⟩), Lay.v y] w fun e w' =>
      if M.layCheck l.length y = 0 then ∃ b, e = .returned (.tuple #[.pointer (some ⟨b, 0, none⟩), .int .i64 0]) ∧ St w0 W w' (kqR b mb (M.newK y) :: memK mb (M.newMem l y) :: B)
      else e = .returned (.tuple #[.pointer none, .int .i64 (M.layCheck l.length y)]) ∧ St w0 W w' (memK mb l :: B) := by
  refine aqueductref15_New.calls ⟨mb, 0, none⟩ (y.ring, y.size, y.drv, y.dev, ()) ?_
  unfold aqueductref15_New.T
  dsimp only
  refine t_newB h (by simp [Value.oneCell']) fun w a h ha => ?_
  refine t_ldB h 0 rfl rfl ?_
  refine t_callS (k := .I) (x := M.layCheck l.length y) (R14_Check_spec h.swap y h1 h2 h3 h4) fun w h => ?_
  refine t_ifn (fun c1 => t_ret (by rw [if_neg c1]; exact ⟨rfl, h.swap.drop⟩)) (fun c1 => t_tickS h fun w h => ?_)
  simp only [if_pos c1]
  have hy := layCheck_ok c1
  refine t_ldB h 1 rfl rfl (t_ldB h 1 rfl rfl ?_)
  rw [w64 (n := 16 * y.size) (by omega)]
  refine t_make h slI_bytes rfl (by omega) (by omega) (by omega) fun s w hsn hsc hsa h => ?_
  rw [zeroRow_u8] at h
  refine t_keepB h 2 rfl rfl (t_keepN (t_str bytesT h 0 rfl ?_))
  replace h := h.drop
  refine t_keepB h 1 rfl rfl (t_keepN ?_)
  refine t_callnS (k := .I) (R4_Write_spec' h y.ring (List.replicate (16 * y.size).toNat 0) (by omega) (by simp; omega)) fun w h => t_tickS h fun w h => ?_
  refine t_ldB h 1 rfl rfl ?_
  refine t_make h slI_bytes rfl (by omega) (by omega) (by omega) fun s w hsn hsc hsa h => ?_
  rw [zeroRow_u8] at h
  refine t_keepB h 2 rfl rfl (t_keepN (t_str bytesT h 0 rfl ?_))
  replace h := h.drop
  refine t_keepB h 1 rfl rfl (t_keepN ?_)
  refine t_callnS (k := .I) (R4_Write_spec' h y.drv (List.replicate 4 0) (by omega) (by simp)) fun w h => t_tickS h fun w h => ?_
  refine t_ldB h 1 rfl rfl ?_
  refine t_make h slI_bytes rfl (by omega) (by omega) (by omega) fun s w hsn hsc hsa h => ?_
  rw [zeroRow_u8] at h
  refine t_keepB h 2 rfl rfl (t_keepN (t_str bytesT h 0 rfl ?_))
  replace h := h.drop
  refine t_keepB h 1 rfl rfl (t_keepN ?_)
  refine t_callnS (k := .I) (R4_Write_spec' h y.dev (List.replicate 4 0) (by omega) (by simp)) fun w h => ?_
  refine t_newB h (by simp [Value.oneCell']) fun w s h hs => ?_
  refine t_stB h 0 rfl (by simp) (by simp [Value.oneCell']) fun w h => t_tickS h fun w h => ?_
  dsimp only [List.set, setL, Nat.zero_add] at h
  refine t_ldB h 2 rfl rfl (t_ldB h 0 rfl rfl (t_ldB h 0 rfl rfl (t_ldB h 0 rfl rfl (t_ldB h 2 rfl rfl ?_))))
  refine t_make h slI_ints rfl (by omega) (by omega) (by omega) fun sl w hsn hsc hsa h => ?_
  rw [zeroRow_int] at h
  refine t_keepB h 1 rfl rfl (t_keepB h 1 rfl rfl (t_keepB h 1 rfl rfl (t_keepB h 3 rfl rfl (t_keepN ?_))))
  refine t_newB h (by simp [Value.oneCell']) fun w b h hb => t_ret ⟨b, rfl, ?_⟩
  refine St.inj sl (St.close [_, _] ?_)
  exact (h.dropAt 2 (by simp)).dropAt 3 (by simp)
end
end Go.Proofs.YthfcneahnldgnaaGreat
