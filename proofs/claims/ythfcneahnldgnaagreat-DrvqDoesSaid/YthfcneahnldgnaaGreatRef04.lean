/- The reference's memory: contracts. -/
import Derived.Test.YthfcneahnldgnaaGreatGmem
namespace Go.Proofs.YthfcneahnldgnaaGreat
open Go Vk
set_option linter.unusedSimpArgs false
set_option linter.unusedVariables false
/-- A memory of the reference's. -/
def memK (b : Nat) (l : List UInt8) : Res := exR fun x : Int × Sl × List Value =>
  allR [blkR b [.string (mkB l), .int .i64 x.1, Sl.v x.2.1] 73, ownR x.2.1 103 4 x.2.2, pureR (x.2.1.n ≤ 4096 ∧ (∀ v ∈ x.2.2, v.oneCell' = true) ∧ l.length ≤ 1048576)]
section
variable {w0 w : World} {W : List Nat} {B : List Res}
theorem memK_open {b : Nat} {l : List UInt8} (h : St w0 W w (memK b l :: B)) : ∃ (ag : Int) (lg : Sl) (cs : List Value), lg.n ≤ 4096 ∧ (∀ v ∈ cs, v.oneCell' = true) ∧ l.length ≤ 1048576 ∧
    St w0 W w (blkR b [.string (mkB l), .int .i64 ag, Sl.v lg] 73 :: ownR lg 103 4 cs :: B) := by
  obtain ⟨⟨ag, lg, cs⟩, h⟩ := h.ex
  have h := h.open
  obtain ⟨⟨h1, h3, h4⟩, h⟩ := St.unpure (St.rot2 h)
  exact ⟨ag, lg, cs, h1, h3, h4, h⟩
theorem memK_close {b : Nat} {l : List UInt8} {ag : Int} {lg : Sl} {cs : List Value} (h1 : lg.n ≤ 4096) (h3 : ∀ v ∈ cs, v.oneCell' = true) (h4 : l.length ≤ 1048576)
    (h : St w0 W w (blkR b [.string (mkB l), .int .i64 ag, Sl.v lg] 73 :: ownR lg 103 4 cs :: B)) : St w0 W w (memK b l :: B) :=
  St.inj (ag, lg, cs) (St.close [_, _, _] (St.unrot2 (h.pure ⟨h1, h3, h4⟩)))

theorem R4_May_spec {b : Nat} {l : List UInt8} (h : St w0 W w (memK b l :: B)) (at_ n : Int) (h1 : -9223372036854775808 ≤ at_ ∧ at_ ≤ 9223372036854775807) (h2 : -9223372036854775808 ≤ n ∧ n ≤ 9223372036854775807) :
    Calls Tryz.prog 31 #[.pointer (some ⟨b, 0, none⟩), .int .i64 at_, .int .i64 n] w fun e w' => e = .returned (.bool (M.mayAt l.length at_ n)) ∧ St w0 W w' (memK b l :: B) := by
  refine aqueductref04_Memory_May.calls ⟨b, 0, none⟩ at_ n ?_
  unfold aqueductref04_Memory_May.T
  obtain ⟨ag, lg, cs, hl1, hl3, hl4, h'⟩ := memK_open h
  refine t_if (fun c1 => ?_) (fun c1 => t_ret ⟨by simp [M.mayAt, c1], h⟩)
  refine t_if (fun c2 => ?_) (fun c2 => t_ret ⟨by simp [M.mayAt, c2], h⟩)
  refine t_ldB (x := mkB l) h' 0 rfl rfl ?_
  rw [mkB_size]
  refine t_if (fun c3 => ?_) (fun c3 => t_ret ⟨by simp [M.mayAt]; omega, h⟩)
  refine t_ldB (x := mkB l) h' 0 rfl rfl (t_ret ⟨?_, h⟩)
  rw [mkB_size, w64 (by omega)]
  simp only [M.mayAt]
  congr 2
  rw [decide_eq_decide]
  omega

theorem R4_note_spec {b : Nat} {l : List UInt8} (h : St w0 W w (memK b l :: B)) (at_ n : Int) (wr : Bool) :
    Calls Tryz.prog 43 #[.pointer (some ⟨b, 0, none⟩), .int .i64 at_, .int .i64 n, .bool wr] w fun e w' => e = .returned (.tuple #[]) ∧ St w0 W w' (memK b l :: B) := by
  refine aqueductref04_Memory_note.calls ⟨b, 0, none⟩ at_ n wr ?_
  unfold aqueductref04_Memory_note.T
  obtain ⟨ag, lg, cs, hl1, hl3, hl4, h⟩ := memK_open h
  refine t_bindQ (fun _ w' => ∃ (lg' : Sl) (cs' : List Value), lg'.n ≤ 4097 ∧ (∀ v ∈ cs', v.oneCell' = true) ∧ St w0 W w' (blkR b [.string (mkB l), .int .i64 ag, Sl.v lg'] 73 :: ownR lg' 103 4 cs' :: B)) ?_ ?_
  · refine t_if (fun c1 => t_tickS h fun w h => ?_) (fun c1 => t_jmp ⟨(), rfl, lg, cs, by omega, hl3, h⟩)
    refine t_ldB (x := lg) h 0 rfl rfl ?_
    refine t_ldB (x := ag) h 0 rfl rfl ?_
    have hone : ∀ v ∈ cs ++ [Value.int .i64 ag, .int .i64 at_, .int .i64 n, .bool wr], v.oneCell' = true := by
      intro v hv
      simp only [List.mem_append] at hv
      rcases hv with hv | hv
      · exact hl3 v hv
      · revert v; simp [Value.oneCell']
    refine t_both (t_newO (sz := 4) h fun w a hk h => ?_) (t_newB h (by simp [Value.oneCell']) fun w b' h hb' => ?_)
    · refine t_keepB h 1 rfl rfl (t_keepB h 1 rfl rfl (t_keepN ?_))
      refine t_both ?_ (t_newB h (by simp [Value.oneCell']) fun w b' h hb' => ?_)
      · refine t_append (s := ⟨some a, 0, 0⟩) h 0 rfl slI_acc rfl undAcc (Src_own h 2 rfl w (Keep.refl _ _)) hl3 (by simp; omega) (by omega) fun l3 w hn h => ?_
        refine t_keepB h 1 rfl rfl (t_keepN ?_)
        refine t_newB h (by simp [Value.oneCell']) fun w b' h hb' => ?_
        refine t_append h 1 rfl slI_acc rfl undAcc (Src.of_blk (m := 1) (h.blk 0 rfl) rfl) (by simp [Value.oneCell']) (by simp at hn; omega) (by omega) fun l5 w hn' h => ?_
        refine t_stB h 2 rfl (by simp) (by simp [Value.oneCell']) fun w h => t_jmp ⟨(), rfl, l5, _, by simp at hn; omega, hone, ?_⟩
        dsimp only [List.set, setL, Nat.zero_add, List.nil_append] at h
        exact (h.drop.swap.dropAt 2 (by simp))
      · refine t_keepB h 2 rfl rfl (t_keepN ?_)
        refine t_append (s := ⟨some a, 0, 0⟩) h 1 rfl slI_acc rfl undAcc (Src_own h 3 rfl w (Keep.refl _ _)) hl3 (by simp; omega) (by omega) fun l3 w hn h => ?_
        refine t_append h 1 rfl slI_acc rfl undAcc (Src.of_blk (m := 1) (h.blk 0 rfl) rfl) (by simp [Value.oneCell']) (by simp at hn; omega) (by omega) fun l5 w hn' h => ?_
        refine t_stB h 2 rfl (by simp) (by simp [Value.oneCell']) fun w h => t_jmp ⟨(), rfl, l5, _, by simp at hn; omega, hone, ?_⟩
        dsimp only [List.set, setL, Nat.zero_add, List.nil_append] at h
        exact (h.drop.swap.dropAt 2 (by simp))
    · refine t_keepB h 1 rfl rfl (t_keepN (t_newO (sz := 4) h fun w a hk h => ?_))
      refine t_keepB h 2 rfl rfl (t_keepN ?_)
      refine t_append (s := ⟨some a, 0, 0⟩) h 0 rfl slI_acc rfl undAcc (Src_own h 3 rfl w (Keep.refl _ _)) hl3 (by simp; omega) (by omega) fun l3 w hn h => ?_
      refine t_append h 0 rfl slI_acc rfl undAcc (Src.of_blk (m := 1) (h.blk 1 rfl) rfl) (by simp [Value.oneCell']) (by simp at hn; omega) (by omega) fun l5 w hn' h => ?_
      refine t_stB h 2 rfl (by simp) (by simp [Value.oneCell']) fun w h => t_jmp ⟨(), rfl, l5, _, by simp at hn; omega, hone, ?_⟩
      dsimp only [List.set, setL, Nat.zero_add, List.nil_append] at h
      exact (((h.dropAt 1 (by simp)).swap).dropAt 2 (by simp))
  · rintro _ w ⟨lg', cs', hn', hone', h⟩
    refine t_ldB (x := lg') h 0 rfl rfl ?_
    refine t_if (fun c2 => ?_) (fun c2 => t_ret ⟨rfl, memK_close (by omega) hone' hl4 h⟩)
    refine t_ldB (x := lg') h 0 rfl rfl ?_
    refine t_need (by omega) ?_
    refine t_stB h 0 rfl (by simp) (by simp [Value.oneCell']) fun w h => t_ret ⟨rfl, ?_⟩
    dsimp only [List.set, setL, Nat.zero_add] at h
    exact memK_close (by simp; omega) (fun v hv => hone' v (List.mem_of_mem_drop hv)) hl4 (St.swap ((St.swap h).tail (k := 1) (by omega)))

theorem mkB_whole (l : List UInt8) (k n : Nat) (hn : l.length ≤ n) : (mkB l).extract k n = mkB (l.drop k) := by rw [mkB_extract, List.take_of_length_le hn]
theorem R4_Write_spec {b : Nat} {l : List UInt8} (h : St w0 W w (memK b l :: B)) (at_ : Int) (t : List UInt8) (h1 : -9223372036854775808 ≤ at_ ∧ at_ ≤ 9223372036854775807) (h2 : t.length ≤ 140737488355328) :
    Calls Tryz.prog 12 #[.pointer (some ⟨b, 0, none⟩), .int .i64 at_, .string (mkB t)] w fun e w' => e = .returned (.int .i64 (M.write l at_ t).2) ∧ St w0 W w' (memK b (M.write l at_ t).1 :: B) := by
  refine aqueductref04_Memory_Write.calls ⟨b, 0, none⟩ at_ (mkB t) ?_
  unfold aqueductref04_Memory_Write.T
  rw [mkB_size]
  refine t_callS (k := .B) (x := M.mayAt l.length at_ t.length) (R4_May_spec h at_ t.length h1 (by omega)) fun w h => ?_
  refine t_not (fun c2 => t_ret ⟨by simp [M.write, c2], by simpa [M.write, c2] using h⟩) (fun c2 => ?_)
  have hm := c2
  simp only [M.mayAt, decide_eq_true_eq] at hm
  refine t_callS (k := .tup []) (x := ()) (R4_note_spec h at_ t.length true) fun w h => t_tickS h fun w h => ?_
  obtain ⟨ag, lg, cs, hl1, hl3, hl4, h⟩ := memK_open h
  refine t_ldB (x := mkB l) h 0 rfl rfl ?_
  rw [mkB_size, mkB_extract]
  refine t_need (by omega) (t_need (by simp; omega) ?_)
  refine t_ldB (x := mkB l) h 0 rfl rfl ?_
  rw [mkB_size, w64 (by omega), mkB_whole _ _ _ (Nat.le_refl _), mkB_append, mkB_append]
  refine t_need (by omega) (t_need (by simp; omega) ?_)
  refine t_stB h 0 rfl (by simp) (by simp [Value.oneCell']) fun w h => t_ret ⟨by simp [M.write, c2], ?_⟩
  dsimp only [List.set, setL, Nat.zero_add] at h
  have hw : (M.write l at_ t).1 = (l.take at_.toNat).drop 0 ++ t ++ l.drop (at_ + t.length).toNat := by
    simp only [M.write, c2, if_true, M.wr, List.drop_zero]
    congr 2; omega
  rw [hw]
  exact memK_close hl1 hl3 (by simp; omega) h

theorem R4_New_spec (h : St w0 W w B) (n : Int) : Calls Tryz.prog 23 #[.int .i64 n] w fun e w' =>
    if n < 64 ∨ 1048576 < n then e = .returned (.tuple #[.pointer none, .int .i64 40]) ∧ St w0 W w' B
    else ∃ b, e = .returned (.tuple #[.pointer (some ⟨b, 0, none⟩), .int .i64 0]) ∧ St w0 W w' (memK b (List.replicate n.toNat 0) :: B) := by
  refine aqueductref04_New.calls n ?_
  unfold aqueductref04_New.T
  refine t_if (fun c1 => t_ret (by rw [if_pos (by omega)]; exact ⟨rfl, h⟩)) (fun c1 => ?_)
  refine t_if (fun c2 => t_ret (by rw [if_pos (by omega)]; exact ⟨rfl, h⟩)) (fun c2 => ?_)
  refine t_make h slI_bytes rfl (by omega) (by omega) (by omega) fun s w hsn hsc hsa h => ?_
  rw [zeroRow_u8] at h
  refine t_str bytesT h 0 rfl ?_
  refine t_newB h (by simp [Value.oneCell']) fun w b h hb => t_ret ?_
  rw [if_neg (by omega)]
  refine ⟨b, rfl, memK_close (ag := 0) (lg := ⟨none, 0, 0⟩) (cs := []) (by simp) (by simp) (by simp; omega) ?_⟩
  exact (St.push (A := ownR ⟨none, 0, 0⟩ 103 4 []) (F' := []) (h.dropAt 1 (by simp)) (Keep.refl _ _) (Own.nil _ _ _) (by simp)).swap
end
end Go.Proofs.YthfcneahnldgnaaGreat
