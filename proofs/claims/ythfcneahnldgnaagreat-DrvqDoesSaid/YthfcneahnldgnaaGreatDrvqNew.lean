/- drvq: New. -/
import Derived.Test.YthfcneahnldgnaaGreatDrvqReap
import Derived.Test.YthfcneahnldgnaaGreatShelf
namespace Go.Proofs.YthfcneahnldgnaaGreat
open Go Vk
set_option linter.unusedSimpArgs false
set_option linter.unusedVariables false
namespace M
def writeM (l : List UInt8) (at_ : Int) (s : List UInt8) : List UInt8 := (write l at_ s).1
def newMem (l : List UInt8) (y : Lay) : List UInt8 := writeM (writeM (writeM l y.ring (List.replicate (16 * y.size).toNat 0)) y.drv (List.replicate 4 0)) y.dev (List.replicate 4 0)
def newQ (y : Lay) : DQ := ⟨y, ⟨0, true⟩, ⟨0, true⟩, ⟨0, true⟩, 0, y.size, []⟩
end M
section
variable {w0 w : World} {W : List Nat} {B : List Res}
theorem gmem_Write_spec' {b : Nat} {l : List UInt8} (h : St w0 W w (memR b l :: B)) (at_ : Int) (t : List UInt8) (h1 : -9223372036854775808 ≤ at_ ∧ at_ ≤ 9223372036854775807) (h2 : t.length ≤ 140737488355328) :
    Calls Tryz.prog 10 #[.pointer (some ⟨b, 0, none⟩), .int .i64 at_, .string (mkB t)] w fun e w' => e = .returned (.int .i64 (M.write l at_ t).2) ∧ St w0 W w' (memR b (M.writeM l at_ t) :: B) := gmem_Write_spec h at_ t h1 h2
theorem layCheck_ok {N : Nat} {y : M.Lay} (h : M.layCheck N y = 0) : 1 ≤ y.size ∧ y.size ≤ 32768 ∧ 0 ≤ y.ring ∧ y.ring + 16 * y.size ≤ N ∧ 0 ≤ y.drv ∧ y.drv + 4 ≤ N ∧ 0 ≤ y.dev ∧ y.dev + 4 ≤ N := by
  unfold M.layCheck at h
  split at h
  · rename_i hc
    simp only [M.mayAt, decide_eq_true_eq] at hc
    omega
  · omega
theorem drvq_New_spec {mb : Nat} {l : List UInt8} (h : St w0 W w (memR mb l :: B)) (hl : l.length ≤ 1048576) (y : M.Lay) (h1 : i64R y.ring) (h2 : i64R y.size) (h3 : i64R y.drv) (h4 : i64R y.dev) :
    Calls Tryz.prog 24 #[.pointer (some ⟨mb, 0, none⟩), Lay.v y] w fun e w' =>
      if M.layCheck l.length y = 0 then ∃ b, e = .returned (.tuple #[.pointer (some ⟨b, 0, none⟩), .int .i64 0]) ∧ St w0 W w' (dqR b mb (M.newQ y) :: memR mb (M.newMem l y) :: B)
      else e = .returned (.tuple #[.pointer none, .int .i64 (M.layCheck l.length y)]) ∧ St w0 W w' (memR mb l :: B) := by
  refine drvq_New.calls ⟨mb, 0, none⟩ (y.ring, y.size, y.drv, y.dev, ()) ?_
  unfold drvq_New.T
  dsimp only
  refine t_newB h (by simp [Value.oneCell']) fun w a h ha => ?_
  refine t_ldB h 0 rfl rfl ?_
  refine t_callS (k := .I) (x := M.layCheck l.length y) (devq_Check_spec h.swap y h1 h2 h3 h4) fun w h => ?_
  refine t_ifn (fun c1 => t_ret (by rw [if_neg c1]; exact ⟨rfl, h.swap.drop⟩)) (fun c1 => t_tickS h fun w h => ?_)
  simp only [if_pos c1]
  have hy := layCheck_ok c1
  refine t_ldB h 1 rfl rfl (t_ldB h 1 rfl rfl ?_)
  rw [w64 (n := 16 * y.size) (by omega)]
  obtain ⟨n, hn⟩ : ∃ n : Nat, 16 * y.size = n := ⟨(16 * y.size).toNat, by omega⟩
  rw [hn]
  refine t_callnS (k := .S) (x := mkB (List.replicate n 0)) (Repeat_spec h n (by omega)) fun w h => ?_
  refine t_keepB h 1 rfl rfl (t_keepN ?_)
  refine t_callnS (k := .I) (gmem_Write_spec' h y.ring (List.replicate n 0) (by omega) (by simp; omega)) fun w h => t_tickS h fun w h => ?_
  refine t_ldB h 1 rfl rfl ?_
  refine t_callnS (k := .S) (x := mkB (List.replicate 4 0)) (Repeat_spec h 4 (by omega)) fun w h => ?_
  refine t_keepB h 1 rfl rfl (t_keepN ?_)
  refine t_callnS (k := .I) (gmem_Write_spec' h y.drv (List.replicate 4 0) (by omega) (by simp)) fun w h => t_tickS h fun w h => ?_
  refine t_ldB h 1 rfl rfl ?_
  refine t_callnS (k := .S) (x := mkB (List.replicate 4 0)) (Repeat_spec h 4 (by omega)) fun w h => ?_
  refine t_keepB h 1 rfl rfl (t_keepN ?_)
  refine t_callnS (k := .I) (gmem_Write_spec' h y.dev (List.replicate 4 0) (by omega) (by simp)) fun w h => ?_
  refine t_newB h (by simp [Value.oneCell']) fun w s h hs => ?_
  refine t_stB h 0 rfl (by simp) (by simp [Value.oneCell']) fun w h => ?_
  dsimp only [List.set, setL, Nat.zero_add] at h
  refine t_ldB h 2 rfl rfl (t_ldB h 0 rfl rfl (t_ldB h 0 rfl rfl (t_ldB h 0 rfl rfl (t_ldB h 2 rfl rfl ?_))))
  refine t_makeMap h fun r w h => ?_
  refine t_newB h (by simp [Value.oneCell']) fun w b h hb => t_ret ⟨b, rfl, ?_⟩
  have hm : M.newMem l y = M.writeM (M.writeM (M.writeM l y.ring (List.replicate n 0)) y.drv (List.replicate 4 0)) y.dev (List.replicate 4 0) := by
    unfold M.newMem; rw [hn, Int.toNat_natCast]
  rw [hm]
  refine dq_close (r := r) (M.newQ y) ?_
  exact (h.dropAt 2 (by simp)).dropAt 3 (by simp)
end
end Go.Proofs.YthfcneahnldgnaaGreat
