/- drvq: Reap, Free, Back. -/
import Derived.Test.YthfcneahnldgnaaGreatDrvqPost
namespace Go.Proofs.YthfcneahnldgnaaGreat
open Go Vk
set_option linter.unusedSimpArgs false
set_option linter.unusedVariables false
namespace M
def reapDesc (l : List UInt8) (q : DQ) : Desc :=
  let s := (read l (q.l.ring + 16 * q.back.at_) 16).1
  if s.length = 16 then descOf s else ⟨0, 0, 0, 0⟩
def reapQ (q : DQ) (id n : Int) : DQ := { q with held := q.held.filter (fun p => p.1 ≠ id), free := q.free + n, back := (spotNext q.back n q.l.size).1 }
end M
theorem descOf_lt (s : List UInt8) : (0 ≤ (M.descOf s).addr ∧ (M.descOf s).addr < 18446744073709551616) ∧ (0 ≤ (M.descOf s).len ∧ (M.descOf s).len < 4294967296) ∧ (0 ≤ (M.descOf s).id ∧ (M.descOf s).id < 65536) ∧ (0 ≤ (M.descOf s).flags ∧ (M.descOf s).flags < 65536) := by
  have hlt : ∀ (k : Nat) (t : List UInt8), t.length ≤ k → M.beN t < 256 ^ k := fun k t ht => Nat.lt_of_lt_of_le (beN_lt t) (Nat.pow_le_pow_right (by omega) ht)
  have e0 := hlt 8 (s.take 8).reverse (by simp; omega)
  have e1 := hlt 4 ((s.drop 8).take 4).reverse (by simp; omega)
  have e2 := hlt 2 ((s.drop 12).take 2).reverse (by simp; omega)
  have e3 := hlt 2 ((s.drop 14).take 2).reverse (by simp; omega)
  unfold M.descOf
  dsimp only
  omega
theorem reapDesc_lt (l : List UInt8) (q : M.DQ) : (0 ≤ (M.reapDesc l q).addr ∧ (M.reapDesc l q).addr < 18446744073709551616) ∧ (0 ≤ (M.reapDesc l q).len ∧ (M.reapDesc l q).len < 4294967296) ∧ (0 ≤ (M.reapDesc l q).id ∧ (M.reapDesc l q).id < 65536) ∧ (0 ≤ (M.reapDesc l q).flags ∧ (M.reapDesc l q).flags < 65536) := by
  unfold M.reapDesc
  dsimp only
  split
  · exact descOf_lt _
  · dsimp only; omega
section
variable {w0 w : World} {W : List Nat} {B : List Res}
theorem drvq_Free_spec {b mb : Nat} {q : M.DQ} (h : St w0 W w (dqR b mb q :: B)) : Calls Tryz.prog 55 #[.pointer (some ⟨b, 0, none⟩)] w fun e w' => e = .returned (.int .i64 q.free) ∧ St w0 W w' (dqR b mb q :: B) := by
  refine drvq_Queue_Free.calls ⟨b, 0, none⟩ ?_
  unfold drvq_Queue_Free.T
  obtain ⟨r, h'⟩ := dq_open h
  exact t_ldB h' 0 rfl rfl (t_ret ⟨rfl, h⟩)
theorem drvq_Back_spec {b mb : Nat} {q : M.DQ} (h : St w0 W w (dqR b mb q :: B)) : Calls Tryz.prog 59 #[.pointer (some ⟨b, 0, none⟩)] w fun e w' => e = .returned (Spot.v q.back) ∧ St w0 W w' (dqR b mb q :: B) := by
  refine drvq_Queue_Back.calls ⟨b, 0, none⟩ ?_
  unfold drvq_Queue_Back.T
  obtain ⟨r, h⟩ := dq_open h
  refine t_newB h (by simp [Value.oneCell']) fun w a h ha => ?_
  refine t_ldB h 1 rfl rfl ?_
  refine t_stB h 0 rfl (by simp) (by simp [Value.oneCell']) fun w h => ?_
  refine t_ldB h 0 rfl rfl (t_ret ⟨rfl, dq_close q h.drop⟩)

theorem drvq_Reap_spec {b mb : Nat} {l : List UInt8} {q : M.DQ} (h : St w0 W w (dqR b mb q :: memR mb l :: B)) (hq : q.Ok) (hl : l.length ≤ 1048576) :
    Calls Tryz.prog 8 #[.pointer (some ⟨b, 0, none⟩)] w fun e w' =>
      if M.says (M.reapDesc l q).flags q.back.wrap = 2 then
        (M.hasId q.held (M.reapDesc l q).id = false ∧ e = .returned (.tuple #[.int .i64 0, .int .i64 0, .bool false, .int .i64 150]) ∧ St w0 W w' (dqR b mb q :: memR mb l :: B)) ∨
        ∃ n, ((M.reapDesc l q).id, n) ∈ q.held ∧ e = .returned (.tuple #[.int .i64 (M.reapDesc l q).id, .int .i64 (M.reapDesc l q).len, .bool true, .int .i64 0]) ∧ St w0 W w' (dqR b mb (M.reapQ q (M.reapDesc l q).id n) :: memR mb l :: B)
      else e = .returned (.tuple #[.int .i64 0, .int .i64 0, .bool false, .int .i64 0]) ∧ St w0 W w' (dqR b mb q :: memR mb l :: B) := by
  obtain ⟨hsz, hring, hdrv, hdev, hnext, hback, htold, hsince, hfr, hlen, hpos⟩ := hq
  have hbk : 0 ≤ q.back.at_ ∧ q.back.at_ < q.l.size := hback
  refine drvq_Queue_Reap.calls ⟨b, 0, none⟩ ?_
  unfold drvq_Queue_Reap.T
  refine t_tickS h fun w h => ?_
  obtain ⟨r, h⟩ := dq_open h
  refine t_ldB h 0 rfl rfl (t_ldB h 0 rfl rfl (t_ldB h 0 rfl rfl ?_))
  rw [w64 (n := 16 * q.back.at_) (by omega), w64 (n := q.l.ring + 16 * q.back.at_) (by omega)]
  have hR := gmem_Read_spec (St.rot2 h) (q.l.ring + 16 * q.back.at_) 16 (by omega) (by omega)
  refine t_callnS (k := .tup [.S, .I]) (x := (mkB (M.read l (q.l.ring + 16 * q.back.at_) 16).1, (M.read l (q.l.ring + 16 * q.back.at_) 16).2, ())) hR fun w h => ?_
  have hrl : (M.read l (q.l.ring + 16 * q.back.at_) 16).1.length ≤ 140737488355328 := by
    unfold M.read; split
    · simp
    · split
      · simp; omega
      · simp
  have hd : M.reapDesc l q = if (M.read l (q.l.ring + 16 * q.back.at_) 16).1.length = 16 then M.descOf (M.read l (q.l.ring + 16 * q.back.at_) 16).1 else ⟨0, 0, 0, 0⟩ := rfl
  have hP := desc_Parse_spec (M.read l (q.l.ring + 16 * q.back.at_) 16).1 h hrl
  have hdl := reapDesc_lt l q
  dsimp only
  refine t_call hP fun e w' he => ?_
  obtain ⟨he, h⟩ := he
  obtain ⟨ec, he⟩ : ∃ ec : Int, e = .returned (.tuple #[Desc.v (M.reapDesc l q), .int .i64 ec]) := by
    rw [he, hd]
    split
    · exact ⟨0, rfl⟩
    · exact ⟨1, rfl⟩
  clear hd hP hR
  generalize M.reapDesc l q = d at *
  refine ⟨((d.addr, d.len, d.id, d.flags, ()), ec, ()), he, ?_⟩
  refine t_newB h (by simp [Value.oneCell']) fun w a h ha => ?_
  refine t_stB h 0 rfl (by simp) (by simp [Value.oneCell']) fun w h => t_tickS h fun w h => ?_
  dsimp only [List.set, setL, Nat.zero_add] at h
  refine t_ldB h 0 rfl rfl (t_ldB h 2 rfl rfl ?_)
  refine t_callnS (k := .B) (x := decide (M.says d.flags q.back.wrap = 2)) (desc_Used_spec h d.flags q.back.wrap (by omega)) fun w h => ?_
  refine t_ifn (fun c1 => t_ret ?_) (fun c1 => t_tickS h fun w h => ?_)
  · rw [if_neg c1]; exact ⟨rfl, dq_close q (St.unrot2 h.drop)⟩
  simp only [if_pos c1]
  refine t_ldB (x := some r) h 2 rfl rfl (t_ldB h 0 rfl rfl ?_)
  refine t_lookupII h 3 rfl undMapII undInt zeroInt (fun hno => ?_) (fun v hv => ?_)
  · refine t_true rfl (t_ret (.inl ⟨?_, rfl, dq_close q (St.unrot2 h.drop)⟩))
    simp only [M.hasId, List.any_eq_false, decide_eq_true_eq]
    exact hno
  · have hv' := hpos _ hv
    dsimp only at hv'
    refine t_false rfl (t_tickS h fun w h => ?_)
    refine t_ldB (x := some r) h 2 rfl rfl (t_ldB h 0 rfl rfl ?_)
    refine t_deleteII h 3 rfl undMapII undInt hv fun w h => ?_
    refine t_ldB h 2 rfl rfl ?_
    refine t_stB h 2 rfl (by simp) (by simp [Value.oneCell']) fun w h => t_tickS h fun w h => ?_
    refine t_ldB h 2 rfl rfl (t_ldB h 2 rfl rfl ?_)
    refine t_callnS (k := .tup [.agg [.I, .bool], .I]) (x := (((M.spotNext q.back v q.l.size).1.at_, (M.spotNext q.back v q.l.size).1.wrap, ()), (M.spotNext q.back v q.l.size).2, ())) (spot_Next_spec h q.back v q.l.size) fun w h => ?_
    refine t_stB h 2 rfl (by simp [setL]) (by simp [Value.oneCell']) fun w h => t_tickS h fun w h => ?_
    refine t_ldB h 0 rfl rfl (t_ldB h 0 rfl rfl (t_ret (.inr ⟨v, hv, ?_, ?_⟩)))
    · rw [w64 (by omega)]
    · dsimp only [List.set, setL, Nat.zero_add, Nat.reduceAdd] at h
      rw [w64 (n := q.free + v) (by omega)] at h
      exact dq_close (M.reapQ q d.id v) (St.unrot2 h.drop)
end
end Go.Proofs.YthfcneahnldgnaaGreat
