/- drvq: Tell, Ask; the document's queue: Free, Held, Tell, Ask, Reap. -/
import Derived.Test.YthfcneahnldgnaaGreatKeep15
import Derived.Test.YthfcneahnldgnaaGreatVkKeep
namespace Go.Proofs.YthfcneahnldgnaaGreat
open Go Vk
set_option linter.unusedSimpArgs false
set_option linter.unusedVariables false
namespace M
def tellEv (l : List UInt8) (q : DQ) : Ev := evOf ((l.drop q.l.dev.toNat).take 4)
def tellIs (l : List UInt8) (q : DQ) : Bool := if q.l.size < q.since then decide ((tellEv l q).fl ≠ 1 ∧ (tellEv l q).fl ≤ 2) else spotNeed (tellEv l q).off (tellEv l q).wrap (tellEv l q).fl q.told q.next q.l.size
def tellQ (q : DQ) : DQ := { q with told := q.next, since := 0 }
def askE (l : List UInt8) (q : DQ) (e : Ev) : Int := if e.ok then (write l q.l.drv (evB e)).2 else 1
def askM (l : List UInt8) (q : DQ) (e : Ev) : List UInt8 := if e.ok then writeM l q.l.drv (evB e) else l
end M
theorem evB_length (e : M.Ev) : (M.evB e).length = 4 := by simp [M.evB]
theorem tellQ_inv {q : M.DQ} (h : q.Inv) : (M.tellQ q).Inv := by
  obtain ⟨⟨k1, k2, k3, k4, k5, k6, k7, k8, k9, k10, k11⟩, hs, hids, hnd⟩ := h
  exact ⟨⟨k1, k2, k3, k4, k5, k6, k5, by simp only [M.tellQ]; omega, k9, k10, k11⟩, hs, hids, hnd⟩
theorem dev_ok {N : Nat} {y : M.Lay} (h : M.layCheck N y = 0) : M.mayAt N y.dev 4 = true := by
  have := layCheck_ok h
  simp only [M.mayAt, decide_eq_true_eq]; omega
theorem drvq_Tell_con {qb mb : Nat} {l : List UInt8} {q : M.DQ} (hq : q.Inv) (hL : M.layCheck l.length q.l = 0) (hl : l.length ≤ 1048576) :
    Con Tryz.prog NoRo 13 #[.pointer (some ⟨qb, 0, none⟩)] .B [dqR qb mb q, memR mb l] (M.tellIs l q) [dqR qb mb (M.tellQ q), memR mb l] := by
  intro w0 W w B _ h
  refine drvq_Queue_Tell.calls ⟨qb, 0, none⟩ ?_
  unfold drvq_Queue_Tell.T
  have hd := dev_ok hL
  have hy := layCheck_ok hL
  have hr : (M.read l q.l.dev 4).1 = (l.drop q.l.dev.toNat).take 4 := by unfold M.read; rw [if_neg (by omega), if_pos hd]; rfl
  have hlen : ((l.drop q.l.dev.toNat).take 4).length = 4 := by simp; omega
  refine t_tickS h fun w h => ?_
  obtain ⟨r, h⟩ := dq_open h
  repeat (first
    | refine t_tickS h fun w h => ?_
    | refine t_keepN ?_
    | refine t_ldB h 0 rfl rfl ?_
    | refine t_ldB h 1 rfl rfl ?_
    | refine t_ldB h 2 rfl rfl ?_
    | refine t_ldB h 3 rfl rfl ?_
    | refine t_ldB h 4 rfl rfl ?_
    | refine t_ldB h 5 rfl rfl ?_
    | refine t_ldB h 6 rfl rfl ?_
    | refine t_ldB h 7 rfl rfl ?_
    | refine t_ldB h 8 rfl rfl ?_
    | refine t_ldB h 9 rfl rfl ?_
    | refine t_ldO h 0 rfl rfl rfl ?_
    | refine t_ldO h 1 rfl rfl rfl ?_
    | refine t_ldO h 2 rfl rfl rfl ?_
    | refine t_ldO h 3 rfl rfl rfl ?_
    | refine t_ldO h 4 rfl rfl rfl ?_
    | refine t_ldO h 5 rfl rfl rfl ?_
    | refine t_ldO h 6 rfl rfl rfl ?_
    | refine t_ldO h 7 rfl rfl rfl ?_
    | refine t_ldO h 8 rfl rfl rfl ?_
    | refine t_ldO h 9 rfl rfl rfl ?_
    | refine t_keepB h 0 rfl rfl ?_
    | refine t_keepB h 1 rfl rfl ?_
    | refine t_keepB h 2 rfl rfl ?_
    | refine t_keepB h 3 rfl rfl ?_
    | refine t_keepB h 4 rfl rfl ?_
    | refine t_keepB h 5 rfl rfl ?_
    | refine t_keepB h 6 rfl rfl ?_
    | refine t_keepB h 7 rfl rfl ?_
    | refine t_keepB h 8 rfl rfl ?_
    | refine t_keepB h 9 rfl rfl ?_
    | (refine t_stB h 0 rfl (by simp [setL]) (by simp [Value.oneCell']) fun w h => ?_; try dsimp only [List.set, setL, List.eraseIdx, List.cons_append, List.nil_append, List.append_nil, Nat.zero_add, Nat.reduceAdd, Sl.v] at h)
    | (refine t_stB h 1 rfl (by simp [setL]) (by simp [Value.oneCell']) fun w h => ?_; try dsimp only [List.set, setL, List.eraseIdx, List.cons_append, List.nil_append, List.append_nil, Nat.zero_add, Nat.reduceAdd, Sl.v] at h)
    | (refine t_stB h 2 rfl (by simp [setL]) (by simp [Value.oneCell']) fun w h => ?_; try dsimp only [List.set, setL, List.eraseIdx, List.cons_append, List.nil_append, List.append_nil, Nat.zero_add, Nat.reduceAdd, Sl.v] at h)
    | (refine t_stB h 3 rfl (by simp [setL]) (by simp [Value.oneCell']) fun w h => ?_; try dsimp only [List.set, setL, List.eraseIdx, List.cons_append, List.nil_append, List.append_nil, Nat.zero_add, Nat.reduceAdd, Sl.v] at h)
    | (refine t_stB h 4 rfl (by simp [setL]) (by simp [Value.oneCell']) fun w h => ?_; try dsimp only [List.set, setL, List.eraseIdx, List.cons_append, List.nil_append, List.append_nil, Nat.zero_add, Nat.reduceAdd, Sl.v] at h)
    | (refine t_stB h 5 rfl (by simp [setL]) (by simp [Value.oneCell']) fun w h => ?_; try dsimp only [List.set, setL, List.eraseIdx, List.cons_append, List.nil_append, List.append_nil, Nat.zero_add, Nat.reduceAdd, Sl.v] at h)
    | (refine t_stB h 6 rfl (by simp [setL]) (by simp [Value.oneCell']) fun w h => ?_; try dsimp only [List.set, setL, List.eraseIdx, List.cons_append, List.nil_append, List.append_nil, Nat.zero_add, Nat.reduceAdd, Sl.v] at h)
    | (refine t_stB h 7 rfl (by simp [setL]) (by simp [Value.oneCell']) fun w h => ?_; try dsimp only [List.set, setL, List.eraseIdx, List.cons_append, List.nil_append, List.append_nil, Nat.zero_add, Nat.reduceAdd, Sl.v] at h)
    | (refine t_stB h 8 rfl (by simp [setL]) (by simp [Value.oneCell']) fun w h => ?_; try dsimp only [List.set, setL, List.eraseIdx, List.cons_append, List.nil_append, List.append_nil, Nat.zero_add, Nat.reduceAdd, Sl.v] at h)
    | (refine t_stB h 9 rfl (by simp [setL]) (by simp [Value.oneCell']) fun w h => ?_; try dsimp only [List.set, setL, List.eraseIdx, List.cons_append, List.nil_append, List.append_nil, Nat.zero_add, Nat.reduceAdd, Sl.v] at h)
    | refine t_newB h (by simp [Value.oneCell']) fun w b h hb => ?_
    | refine t_nil ?_
    | refine t_true rfl ?_
    | refine t_false rfl ?_
    | refine t_yes rfl ?_
    | refine t_nyes rfl ?_
    | refine t_no (by decide) ?_
    | refine t_nno (by decide) ?_
    | refine t_need (by decide) ?_)
  try dsimp only [List.set, setL, List.eraseIdx, List.cons_append, List.nil_append, List.append_nil, Nat.zero_add, Nat.reduceAdd, Sl.v] at h
  first | refine t_fn (gmem_Read_fn q.l.dev 4 (by unfold i64R; omega) (by unfold i64R; omega)) h (by repeat (first | exact Sub.nil _ | apply Sub.c0 | apply Sub.c1 | apply Sub.c2 | apply Sub.c3 | apply Sub.c4 | apply Sub.c5 | apply Sub.c6 | apply Sub.c7 | apply Sub.c8 | apply Sub.c9 | apply Sub.c10 | apply Sub.c11 | exact Sub.refl _)) noRo fun w h => ?_ | refine t_fnn (gmem_Read_fn q.l.dev 4 (by unfold i64R; omega) (by unfold i64R; omega)) h (by repeat (first | exact Sub.nil _ | apply Sub.c0 | apply Sub.c1 | apply Sub.c2 | apply Sub.c3 | apply Sub.c4 | apply Sub.c5 | apply Sub.c6 | apply Sub.c7 | apply Sub.c8 | apply Sub.c9 | apply Sub.c10 | apply Sub.c11 | exact Sub.refl _)) noRo fun w h => ?_
  try dsimp only [List.set, setL, List.eraseIdx, List.cons_append, List.nil_append, List.append_nil, Nat.zero_add, Nat.reduceAdd, Sl.v] at h
  rw [hr]
  first | refine t_fn (spot_Parse_con ((l.drop q.l.dev.toNat).take 4) hlen) h (by repeat (first | exact Sub.nil _ | apply Sub.c0 | apply Sub.c1 | apply Sub.c2 | apply Sub.c3 | apply Sub.c4 | apply Sub.c5 | apply Sub.c6 | apply Sub.c7 | apply Sub.c8 | apply Sub.c9 | apply Sub.c10 | apply Sub.c11 | exact Sub.refl _)) noRo fun w h => ?_ | refine t_fnn (spot_Parse_con ((l.drop q.l.dev.toNat).take 4) hlen) h (by repeat (first | exact Sub.nil _ | apply Sub.c0 | apply Sub.c1 | apply Sub.c2 | apply Sub.c3 | apply Sub.c4 | apply Sub.c5 | apply Sub.c6 | apply Sub.c7 | apply Sub.c8 | apply Sub.c9 | apply Sub.c10 | apply Sub.c11 | exact Sub.refl _)) noRo fun w h => ?_
  try dsimp only [List.set, setL, List.eraseIdx, List.cons_append, List.nil_append, List.append_nil, Nat.zero_add, Nat.reduceAdd, Sl.v] at h
  have hev : M.evOf ((l.drop q.l.dev.toNat).take 4) = M.tellEv l q := rfl
  rw [hev] at *
  have hT : M.tellIs l q = if q.l.size < q.since then decide ((M.tellEv l q).fl ≠ 1 ∧ (M.tellEv l q).fl ≤ 2) else M.spotNeed (M.tellEv l q).off (M.tellEv l q).wrap (M.tellEv l q).fl q.told q.next q.l.size := rfl
  generalize M.tellEv l q = e at *
  repeat (first
    | refine t_tickS h fun w h => ?_
    | refine t_keepN ?_
    | refine t_ldB h 0 rfl rfl ?_
    | refine t_ldB h 1 rfl rfl ?_
    | refine t_ldB h 2 rfl rfl ?_
    | refine t_ldB h 3 rfl rfl ?_
    | refine t_ldB h 4 rfl rfl ?_
    | refine t_ldB h 5 rfl rfl ?_
    | refine t_ldB h 6 rfl rfl ?_
    | refine t_ldB h 7 rfl rfl ?_
    | refine t_ldB h 8 rfl rfl ?_
    | refine t_ldB h 9 rfl rfl ?_
    | refine t_ldO h 0 rfl rfl rfl ?_
    | refine t_ldO h 1 rfl rfl rfl ?_
    | refine t_ldO h 2 rfl rfl rfl ?_
    | refine t_ldO h 3 rfl rfl rfl ?_
    | refine t_ldO h 4 rfl rfl rfl ?_
    | refine t_ldO h 5 rfl rfl rfl ?_
    | refine t_ldO h 6 rfl rfl rfl ?_
    | refine t_ldO h 7 rfl rfl rfl ?_
    | refine t_ldO h 8 rfl rfl rfl ?_
    | refine t_ldO h 9 rfl rfl rfl ?_
    | refine t_keepB h 0 rfl rfl ?_
    | refine t_keepB h 1 rfl rfl ?_
    | refine t_keepB h 2 rfl rfl ?_
    | refine t_keepB h 3 rfl rfl ?_
    | refine t_keepB h 4 rfl rfl ?_
    | refine t_keepB h 5 rfl rfl ?_
    | refine t_keepB h 6 rfl rfl ?_
    | refine t_keepB h 7 rfl rfl ?_
    | refine t_keepB h 8 rfl rfl ?_
    | refine t_keepB h 9 rfl rfl ?_
    | (refine t_stB h 0 rfl (by simp [setL]) (by simp [Value.oneCell']) fun w h => ?_; try dsimp only [List.set, setL, List.eraseIdx, List.cons_append, List.nil_append, List.append_nil, Nat.zero_add, Nat.reduceAdd, Sl.v] at h)
    | (refine t_stB h 1 rfl (by simp [setL]) (by simp [Value.oneCell']) fun w h => ?_; try dsimp only [List.set, setL, List.eraseIdx, List.cons_append, List.nil_append, List.append_nil, Nat.zero_add, Nat.reduceAdd, Sl.v] at h)
    | (refine t_stB h 2 rfl (by simp [setL]) (by simp [Value.oneCell']) fun w h => ?_; try dsimp only [List.set, setL, List.eraseIdx, List.cons_append, List.nil_append, List.append_nil, Nat.zero_add, Nat.reduceAdd, Sl.v] at h)
    | (refine t_stB h 3 rfl (by simp [setL]) (by simp [Value.oneCell']) fun w h => ?_; try dsimp only [List.set, setL, List.eraseIdx, List.cons_append, List.nil_append, List.append_nil, Nat.zero_add, Nat.reduceAdd, Sl.v] at h)
    | (refine t_stB h 4 rfl (by simp [setL]) (by simp [Value.oneCell']) fun w h => ?_; try dsimp only [List.set, setL, List.eraseIdx, List.cons_append, List.nil_append, List.append_nil, Nat.zero_add, Nat.reduceAdd, Sl.v] at h)
    | (refine t_stB h 5 rfl (by simp [setL]) (by simp [Value.oneCell']) fun w h => ?_; try dsimp only [List.set, setL, List.eraseIdx, List.cons_append, List.nil_append, List.append_nil, Nat.zero_add, Nat.reduceAdd, Sl.v] at h)
    | (refine t_stB h 6 rfl (by simp [setL]) (by simp [Value.oneCell']) fun w h => ?_; try dsimp only [List.set, setL, List.eraseIdx, List.cons_append, List.nil_append, List.append_nil, Nat.zero_add, Nat.reduceAdd, Sl.v] at h)
    | (refine t_stB h 7 rfl (by simp [setL]) (by simp [Value.oneCell']) fun w h => ?_; try dsimp only [List.set, setL, List.eraseIdx, List.cons_append, List.nil_append, List.append_nil, Nat.zero_add, Nat.reduceAdd, Sl.v] at h)
    | (refine t_stB h 8 rfl (by simp [setL]) (by simp [Value.oneCell']) fun w h => ?_; try dsimp only [List.set, setL, List.eraseIdx, List.cons_append, List.nil_append, List.append_nil, Nat.zero_add, Nat.reduceAdd, Sl.v] at h)
    | (refine t_stB h 9 rfl (by simp [setL]) (by simp [Value.oneCell']) fun w h => ?_; try dsimp only [List.set, setL, List.eraseIdx, List.cons_append, List.nil_append, List.append_nil, Nat.zero_add, Nat.reduceAdd, Sl.v] at h)
    | refine t_newB h (by simp [Value.oneCell']) fun w b h hb => ?_
    | refine t_nil ?_
    | refine t_true rfl ?_
    | refine t_false rfl ?_
    | refine t_yes rfl ?_
    | refine t_nyes rfl ?_
    | refine t_no (by decide) ?_
    | refine t_nno (by decide) ?_
    | refine t_need (by decide) ?_)
  try dsimp only [List.set, setL, List.eraseIdx, List.cons_append, List.nil_append, List.append_nil, Nat.zero_add, Nat.reduceAdd, Sl.v] at h
  first | refine t_fn (spot_Need_con e q.told q.next q.l.size) h (by repeat (first | exact Sub.nil _ | apply Sub.c0 | apply Sub.c1 | apply Sub.c2 | apply Sub.c3 | apply Sub.c4 | apply Sub.c5 | apply Sub.c6 | apply Sub.c7 | apply Sub.c8 | apply Sub.c9 | apply Sub.c10 | apply Sub.c11 | exact Sub.refl _)) noRo fun w h => ?_ | refine t_fnn (spot_Need_con e q.told q.next q.l.size) h (by repeat (first | exact Sub.nil _ | apply Sub.c0 | apply Sub.c1 | apply Sub.c2 | apply Sub.c3 | apply Sub.c4 | apply Sub.c5 | apply Sub.c6 | apply Sub.c7 | apply Sub.c8 | apply Sub.c9 | apply Sub.c10 | apply Sub.c11 | exact Sub.refl _)) noRo fun w h => ?_
  try dsimp only [List.set, setL, List.eraseIdx, List.cons_append, List.nil_append, List.append_nil, Nat.zero_add, Nat.reduceAdd, Sl.v] at h
  refine t_bindQ (fun x w' => x = (M.tellIs l q, ()) ∧ St w0 W w' (blkR qb [.pointer (some ⟨mb, 0, none⟩), .int .i64 q.l.ring, .int .i64 q.l.size, .int .i64 q.l.drv, .int .i64 q.l.dev, .int .i64 q.next.at_, .bool q.next.wrap, .int .i64 q.back.at_, .bool q.back.wrap, .int .i64 q.told.at_, .bool q.told.wrap, .int .i64 q.since, .int .i64 q.free, .map (some r)] 78 :: mapR r q.held :: memR mb l :: B)) ?_ ?_
  · repeat (first
      | refine t_tickS h fun w h => ?_
      | refine t_keepN ?_
      | refine t_ldB h 0 rfl rfl ?_
      | refine t_ldB h 1 rfl rfl ?_
      | refine t_ldB h 2 rfl rfl ?_
      | refine t_ldB h 3 rfl rfl ?_
      | refine t_ldB h 4 rfl rfl ?_
      | refine t_ldB h 5 rfl rfl ?_
      | refine t_ldB h 6 rfl rfl ?_
      | refine t_ldB h 7 rfl rfl ?_
      | refine t_ldB h 8 rfl rfl ?_
      | refine t_ldB h 9 rfl rfl ?_
      | refine t_ldO h 0 rfl rfl rfl ?_
      | refine t_ldO h 1 rfl rfl rfl ?_
      | refine t_ldO h 2 rfl rfl rfl ?_
      | refine t_ldO h 3 rfl rfl rfl ?_
      | refine t_ldO h 4 rfl rfl rfl ?_
      | refine t_ldO h 5 rfl rfl rfl ?_
      | refine t_ldO h 6 rfl rfl rfl ?_
      | refine t_ldO h 7 rfl rfl rfl ?_
      | refine t_ldO h 8 rfl rfl rfl ?_
      | refine t_ldO h 9 rfl rfl rfl ?_
      | refine t_keepB h 0 rfl rfl ?_
      | refine t_keepB h 1 rfl rfl ?_
      | refine t_keepB h 2 rfl rfl ?_
      | refine t_keepB h 3 rfl rfl ?_
      | refine t_keepB h 4 rfl rfl ?_
      | refine t_keepB h 5 rfl rfl ?_
      | refine t_keepB h 6 rfl rfl ?_
      | refine t_keepB h 7 rfl rfl ?_
      | refine t_keepB h 8 rfl rfl ?_
      | refine t_keepB h 9 rfl rfl ?_
      | (refine t_stB h 0 rfl (by simp [setL]) (by simp [Value.oneCell']) fun w h => ?_; try dsimp only [List.set, setL, List.eraseIdx, List.cons_append, List.nil_append, List.append_nil, Nat.zero_add, Nat.reduceAdd, Sl.v] at h)
      | (refine t_stB h 1 rfl (by simp [setL]) (by simp [Value.oneCell']) fun w h => ?_; try dsimp only [List.set, setL, List.eraseIdx, List.cons_append, List.nil_append, List.append_nil, Nat.zero_add, Nat.reduceAdd, Sl.v] at h)
      | (refine t_stB h 2 rfl (by simp [setL]) (by simp [Value.oneCell']) fun w h => ?_; try dsimp only [List.set, setL, List.eraseIdx, List.cons_append, List.nil_append, List.append_nil, Nat.zero_add, Nat.reduceAdd, Sl.v] at h)
      | (refine t_stB h 3 rfl (by simp [setL]) (by simp [Value.oneCell']) fun w h => ?_; try dsimp only [List.set, setL, List.eraseIdx, List.cons_append, List.nil_append, List.append_nil, Nat.zero_add, Nat.reduceAdd, Sl.v] at h)
      | (refine t_stB h 4 rfl (by simp [setL]) (by simp [Value.oneCell']) fun w h => ?_; try dsimp only [List.set, setL, List.eraseIdx, List.cons_append, List.nil_append, List.append_nil, Nat.zero_add, Nat.reduceAdd, Sl.v] at h)
      | (refine t_stB h 5 rfl (by simp [setL]) (by simp [Value.oneCell']) fun w h => ?_; try dsimp only [List.set, setL, List.eraseIdx, List.cons_append, List.nil_append, List.append_nil, Nat.zero_add, Nat.reduceAdd, Sl.v] at h)
      | (refine t_stB h 6 rfl (by simp [setL]) (by simp [Value.oneCell']) fun w h => ?_; try dsimp only [List.set, setL, List.eraseIdx, List.cons_append, List.nil_append, List.append_nil, Nat.zero_add, Nat.reduceAdd, Sl.v] at h)
      | (refine t_stB h 7 rfl (by simp [setL]) (by simp [Value.oneCell']) fun w h => ?_; try dsimp only [List.set, setL, List.eraseIdx, List.cons_append, List.nil_append, List.append_nil, Nat.zero_add, Nat.reduceAdd, Sl.v] at h)
      | (refine t_stB h 8 rfl (by simp [setL]) (by simp [Value.oneCell']) fun w h => ?_; try dsimp only [List.set, setL, List.eraseIdx, List.cons_append, List.nil_append, List.append_nil, Nat.zero_add, Nat.reduceAdd, Sl.v] at h)
      | (refine t_stB h 9 rfl (by simp [setL]) (by simp [Value.oneCell']) fun w h => ?_; try dsimp only [List.set, setL, List.eraseIdx, List.cons_append, List.nil_append, List.append_nil, Nat.zero_add, Nat.reduceAdd, Sl.v] at h)
      | refine t_newB h (by simp [Value.oneCell']) fun w b h hb => ?_
      | refine t_nil ?_
      | refine t_true rfl ?_
      | refine t_false rfl ?_
      | refine t_yes rfl ?_
      | refine t_nyes rfl ?_
      | refine t_no (by decide) ?_
      | refine t_nno (by decide) ?_
      | refine t_need (by decide) ?_)
    try dsimp only [List.set, setL, List.eraseIdx, List.cons_append, List.nil_append, List.append_nil, Nat.zero_add, Nat.reduceAdd, Sl.v] at h
    refine t_if (fun c1 => ?_) (fun c1 => ?_)
    · rw [if_pos c1] at hT
      repeat (first
        | refine t_tickS h fun w h => ?_
        | refine t_keepN ?_
        | refine t_ldB h 0 rfl rfl ?_
        | refine t_ldB h 1 rfl rfl ?_
        | refine t_ldB h 2 rfl rfl ?_
        | refine t_ldB h 3 rfl rfl ?_
        | refine t_ldB h 4 rfl rfl ?_
        | refine t_ldB h 5 rfl rfl ?_
        | refine t_ldB h 6 rfl rfl ?_
        | refine t_ldB h 7 rfl rfl ?_
        | refine t_ldB h 8 rfl rfl ?_
        | refine t_ldB h 9 rfl rfl ?_
        | refine t_ldO h 0 rfl rfl rfl ?_
        | refine t_ldO h 1 rfl rfl rfl ?_
        | refine t_ldO h 2 rfl rfl rfl ?_
        | refine t_ldO h 3 rfl rfl rfl ?_
        | refine t_ldO h 4 rfl rfl rfl ?_
        | refine t_ldO h 5 rfl rfl rfl ?_
        | refine t_ldO h 6 rfl rfl rfl ?_
        | refine t_ldO h 7 rfl rfl rfl ?_
        | refine t_ldO h 8 rfl rfl rfl ?_
        | refine t_ldO h 9 rfl rfl rfl ?_
        | refine t_keepB h 0 rfl rfl ?_
        | refine t_keepB h 1 rfl rfl ?_
        | refine t_keepB h 2 rfl rfl ?_
        | refine t_keepB h 3 rfl rfl ?_
        | refine t_keepB h 4 rfl rfl ?_
        | refine t_keepB h 5 rfl rfl ?_
        | refine t_keepB h 6 rfl rfl ?_
        | refine t_keepB h 7 rfl rfl ?_
        | refine t_keepB h 8 rfl rfl ?_
        | refine t_keepB h 9 rfl rfl ?_
        | (refine t_stB h 0 rfl (by simp [setL]) (by simp [Value.oneCell']) fun w h => ?_; try dsimp only [List.set, setL, List.eraseIdx, List.cons_append, List.nil_append, List.append_nil, Nat.zero_add, Nat.reduceAdd, Sl.v] at h)
        | (refine t_stB h 1 rfl (by simp [setL]) (by simp [Value.oneCell']) fun w h => ?_; try dsimp only [List.set, setL, List.eraseIdx, List.cons_append, List.nil_append, List.append_nil, Nat.zero_add, Nat.reduceAdd, Sl.v] at h)
        | (refine t_stB h 2 rfl (by simp [setL]) (by simp [Value.oneCell']) fun w h => ?_; try dsimp only [List.set, setL, List.eraseIdx, List.cons_append, List.nil_append, List.append_nil, Nat.zero_add, Nat.reduceAdd, Sl.v] at h)
        | (refine t_stB h 3 rfl (by simp [setL]) (by simp [Value.oneCell']) fun w h => ?_; try dsimp only [List.set, setL, List.eraseIdx, List.cons_append, List.nil_append, List.append_nil, Nat.zero_add, Nat.reduceAdd, Sl.v] at h)
        | (refine t_stB h 4 rfl (by simp [setL]) (by simp [Value.oneCell']) fun w h => ?_; try dsimp only [List.set, setL, List.eraseIdx, List.cons_append, List.nil_append, List.append_nil, Nat.zero_add, Nat.reduceAdd, Sl.v] at h)
        | (refine t_stB h 5 rfl (by simp [setL]) (by simp [Value.oneCell']) fun w h => ?_; try dsimp only [List.set, setL, List.eraseIdx, List.cons_append, List.nil_append, List.append_nil, Nat.zero_add, Nat.reduceAdd, Sl.v] at h)
        | (refine t_stB h 6 rfl (by simp [setL]) (by simp [Value.oneCell']) fun w h => ?_; try dsimp only [List.set, setL, List.eraseIdx, List.cons_append, List.nil_append, List.append_nil, Nat.zero_add, Nat.reduceAdd, Sl.v] at h)
        | (refine t_stB h 7 rfl (by simp [setL]) (by simp [Value.oneCell']) fun w h => ?_; try dsimp only [List.set, setL, List.eraseIdx, List.cons_append, List.nil_append, List.append_nil, Nat.zero_add, Nat.reduceAdd, Sl.v] at h)
        | (refine t_stB h 8 rfl (by simp [setL]) (by simp [Value.oneCell']) fun w h => ?_; try dsimp only [List.set, setL, List.eraseIdx, List.cons_append, List.nil_append, List.append_nil, Nat.zero_add, Nat.reduceAdd, Sl.v] at h)
        | (refine t_stB h 9 rfl (by simp [setL]) (by simp [Value.oneCell']) fun w h => ?_; try dsimp only [List.set, setL, List.eraseIdx, List.cons_append, List.nil_append, List.append_nil, Nat.zero_add, Nat.reduceAdd, Sl.v] at h)
        | refine t_newB h (by simp [Value.oneCell']) fun w b h hb => ?_
        | refine t_nil ?_
        | refine t_true rfl ?_
        | refine t_false rfl ?_
        | refine t_yes rfl ?_
        | refine t_nyes rfl ?_
        | refine t_no (by decide) ?_
        | refine t_nno (by decide) ?_
        | refine t_need (by decide) ?_)
      try dsimp only [List.set, setL, List.eraseIdx, List.cons_append, List.nil_append, List.append_nil, Nat.zero_add, Nat.reduceAdd, Sl.v] at h
      refine t_ifn (fun c2 => ?_) (fun c2 => ?_)
      · repeat (first
          | refine t_tickS h fun w h => ?_
          | refine t_keepN ?_
          | refine t_ldB h 0 rfl rfl ?_
          | refine t_ldB h 1 rfl rfl ?_
          | refine t_ldB h 2 rfl rfl ?_
          | refine t_ldB h 3 rfl rfl ?_
          | refine t_ldB h 4 rfl rfl ?_
          | refine t_ldB h 5 rfl rfl ?_
          | refine t_ldB h 6 rfl rfl ?_
          | refine t_ldB h 7 rfl rfl ?_
          | refine t_ldB h 8 rfl rfl ?_
          | refine t_ldB h 9 rfl rfl ?_
          | refine t_ldO h 0 rfl rfl rfl ?_
          | refine t_ldO h 1 rfl rfl rfl ?_
          | refine t_ldO h 2 rfl rfl rfl ?_
          | refine t_ldO h 3 rfl rfl rfl ?_
          | refine t_ldO h 4 rfl rfl rfl ?_
          | refine t_ldO h 5 rfl rfl rfl ?_
          | refine t_ldO h 6 rfl rfl rfl ?_
          | refine t_ldO h 7 rfl rfl rfl ?_
          | refine t_ldO h 8 rfl rfl rfl ?_
          | refine t_ldO h 9 rfl rfl rfl ?_
          | refine t_keepB h 0 rfl rfl ?_
          | refine t_keepB h 1 rfl rfl ?_
          | refine t_keepB h 2 rfl rfl ?_
          | refine t_keepB h 3 rfl rfl ?_
          | refine t_keepB h 4 rfl rfl ?_
          | refine t_keepB h 5 rfl rfl ?_
          | refine t_keepB h 6 rfl rfl ?_
          | refine t_keepB h 7 rfl rfl ?_
          | refine t_keepB h 8 rfl rfl ?_
          | refine t_keepB h 9 rfl rfl ?_
          | (refine t_stB h 0 rfl (by simp [setL]) (by simp [Value.oneCell']) fun w h => ?_; try dsimp only [List.set, setL, List.eraseIdx, List.cons_append, List.nil_append, List.append_nil, Nat.zero_add, Nat.reduceAdd, Sl.v] at h)
          | (refine t_stB h 1 rfl (by simp [setL]) (by simp [Value.oneCell']) fun w h => ?_; try dsimp only [List.set, setL, List.eraseIdx, List.cons_append, List.nil_append, List.append_nil, Nat.zero_add, Nat.reduceAdd, Sl.v] at h)
          | (refine t_stB h 2 rfl (by simp [setL]) (by simp [Value.oneCell']) fun w h => ?_; try dsimp only [List.set, setL, List.eraseIdx, List.cons_append, List.nil_append, List.append_nil, Nat.zero_add, Nat.reduceAdd, Sl.v] at h)
          | (refine t_stB h 3 rfl (by simp [setL]) (by simp [Value.oneCell']) fun w h => ?_; try dsimp only [List.set, setL, List.eraseIdx, List.cons_append, List.nil_append, List.append_nil, Nat.zero_add, Nat.reduceAdd, Sl.v] at h)
          | (refine t_stB h 4 rfl (by simp [setL]) (by simp [Value.oneCell']) fun w h => ?_; try dsimp only [List.set, setL, List.eraseIdx, List.cons_append, List.nil_append, List.append_nil, Nat.zero_add, Nat.reduceAdd, Sl.v] at h)
          | (refine t_stB h 5 rfl (by simp [setL]) (by simp [Value.oneCell']) fun w h => ?_; try dsimp only [List.set, setL, List.eraseIdx, List.cons_append, List.nil_append, List.append_nil, Nat.zero_add, Nat.reduceAdd, Sl.v] at h)
          | (refine t_stB h 6 rfl (by simp [setL]) (by simp [Value.oneCell']) fun w h => ?_; try dsimp only [List.set, setL, List.eraseIdx, List.cons_append, List.nil_append, List.append_nil, Nat.zero_add, Nat.reduceAdd, Sl.v] at h)
          | (refine t_stB h 7 rfl (by simp [setL]) (by simp [Value.oneCell']) fun w h => ?_; try dsimp only [List.set, setL, List.eraseIdx, List.cons_append, List.nil_append, List.append_nil, Nat.zero_add, Nat.reduceAdd, Sl.v] at h)
          | (refine t_stB h 8 rfl (by simp [setL]) (by simp [Value.oneCell']) fun w h => ?_; try dsimp only [List.set, setL, List.eraseIdx, List.cons_append, List.nil_append, List.append_nil, Nat.zero_add, Nat.reduceAdd, Sl.v] at h)
          | (refine t_stB h 9 rfl (by simp [setL]) (by simp [Value.oneCell']) fun w h => ?_; try dsimp only [List.set, setL, List.eraseIdx, List.cons_append, List.nil_append, List.append_nil, Nat.zero_add, Nat.reduceAdd, Sl.v] at h)
          | refine t_newB h (by simp [Value.oneCell']) fun w b h hb => ?_
          | refine t_nil ?_
          | refine t_true rfl ?_
          | refine t_false rfl ?_
          | refine t_yes rfl ?_
          | refine t_nyes rfl ?_
          | refine t_no (by decide) ?_
          | refine t_nno (by decide) ?_
          | refine t_need (by decide) ?_)
        try dsimp only [List.set, setL, List.eraseIdx, List.cons_append, List.nil_append, List.append_nil, Nat.zero_add, Nat.reduceAdd, Sl.v] at h
        refine t_jmp ⟨(decide (e.fl ≤ 2), ()), rfl, ?_, h.weak (by repeat (first | exact Weak.refl _ | apply Weak.c0 | apply Weak.c1 | apply Weak.c2 | apply Weak.c3 | apply Weak.c4 | apply Weak.c5 | apply Weak.c6 | apply Weak.c7 | apply Weak.c8 | apply Weak.c9 | apply Weak.c10 | apply Weak.c11 | apply Weak.drop))⟩
        rw [hT]; simp [c2]
      · refine t_jmp ⟨(false, ()), rfl, ?_, h.weak (by repeat (first | exact Weak.refl _ | apply Weak.c0 | apply Weak.c1 | apply Weak.c2 | apply Weak.c3 | apply Weak.c4 | apply Weak.c5 | apply Weak.c6 | apply Weak.c7 | apply Weak.c8 | apply Weak.c9 | apply Weak.c10 | apply Weak.c11 | apply Weak.drop))⟩
        rw [hT]; simp [c2]
    · rw [if_neg c1] at hT
      exact t_jmp ⟨(M.spotNeed e.off e.wrap e.fl q.told q.next q.l.size, ()), rfl, by rw [hT], h.weak (by repeat (first | exact Weak.refl _ | apply Weak.c0 | apply Weak.c1 | apply Weak.c2 | apply Weak.c3 | apply Weak.c4 | apply Weak.c5 | apply Weak.c6 | apply Weak.c7 | apply Weak.c8 | apply Weak.c9 | apply Weak.c10 | apply Weak.c11 | apply Weak.drop))⟩
  · rintro _ w ⟨rfl, h⟩
    dsimp only
    repeat (first
      | refine t_tickS h fun w h => ?_
      | refine t_keepN ?_
      | refine t_ldB h 0 rfl rfl ?_
      | refine t_ldB h 1 rfl rfl ?_
      | refine t_ldB h 2 rfl rfl ?_
      | refine t_ldB h 3 rfl rfl ?_
      | refine t_ldB h 4 rfl rfl ?_
      | refine t_ldB h 5 rfl rfl ?_
      | refine t_ldB h 6 rfl rfl ?_
      | refine t_ldB h 7 rfl rfl ?_
      | refine t_ldB h 8 rfl rfl ?_
      | refine t_ldB h 9 rfl rfl ?_
      | refine t_ldO h 0 rfl rfl rfl ?_
      | refine t_ldO h 1 rfl rfl rfl ?_
      | refine t_ldO h 2 rfl rfl rfl ?_
      | refine t_ldO h 3 rfl rfl rfl ?_
      | refine t_ldO h 4 rfl rfl rfl ?_
      | refine t_ldO h 5 rfl rfl rfl ?_
      | refine t_ldO h 6 rfl rfl rfl ?_
      | refine t_ldO h 7 rfl rfl rfl ?_
      | refine t_ldO h 8 rfl rfl rfl ?_
      | refine t_ldO h 9 rfl rfl rfl ?_
      | refine t_keepB h 0 rfl rfl ?_
      | refine t_keepB h 1 rfl rfl ?_
      | refine t_keepB h 2 rfl rfl ?_
      | refine t_keepB h 3 rfl rfl ?_
      | refine t_keepB h 4 rfl rfl ?_
      | refine t_keepB h 5 rfl rfl ?_
      | refine t_keepB h 6 rfl rfl ?_
      | refine t_keepB h 7 rfl rfl ?_
      | refine t_keepB h 8 rfl rfl ?_
      | refine t_keepB h 9 rfl rfl ?_
      | (refine t_stB h 0 rfl (by simp [setL]) (by simp [Value.oneCell']) fun w h => ?_; try dsimp only [List.set, setL, List.eraseIdx, List.cons_append, List.nil_append, List.append_nil, Nat.zero_add, Nat.reduceAdd, Sl.v] at h)
      | (refine t_stB h 1 rfl (by simp [setL]) (by simp [Value.oneCell']) fun w h => ?_; try dsimp only [List.set, setL, List.eraseIdx, List.cons_append, List.nil_append, List.append_nil, Nat.zero_add, Nat.reduceAdd, Sl.v] at h)
      | (refine t_stB h 2 rfl (by simp [setL]) (by simp [Value.oneCell']) fun w h => ?_; try dsimp only [List.set, setL, List.eraseIdx, List.cons_append, List.nil_append, List.append_nil, Nat.zero_add, Nat.reduceAdd, Sl.v] at h)
      | (refine t_stB h 3 rfl (by simp [setL]) (by simp [Value.oneCell']) fun w h => ?_; try dsimp only [List.set, setL, List.eraseIdx, List.cons_append, List.nil_append, List.append_nil, Nat.zero_add, Nat.reduceAdd, Sl.v] at h)
      | (refine t_stB h 4 rfl (by simp [setL]) (by simp [Value.oneCell']) fun w h => ?_; try dsimp only [List.set, setL, List.eraseIdx, List.cons_append, List.nil_append, List.append_nil, Nat.zero_add, Nat.reduceAdd, Sl.v] at h)
      | (refine t_stB h 5 rfl (by simp [setL]) (by simp [Value.oneCell']) fun w h => ?_; try dsimp only [List.set, setL, List.eraseIdx, List.cons_append, List.nil_append, List.append_nil, Nat.zero_add, Nat.reduceAdd, Sl.v] at h)
      | (refine t_stB h 6 rfl (by simp [setL]) (by simp [Value.oneCell']) fun w h => ?_; try dsimp only [List.set, setL, List.eraseIdx, List.cons_append, List.nil_append, List.append_nil, Nat.zero_add, Nat.reduceAdd, Sl.v] at h)
      | (refine t_stB h 7 rfl (by simp [setL]) (by simp [Value.oneCell']) fun w h => ?_; try dsimp only [List.set, setL, List.eraseIdx, List.cons_append, List.nil_append, List.append_nil, Nat.zero_add, Nat.reduceAdd, Sl.v] at h)
      | (refine t_stB h 8 rfl (by simp [setL]) (by simp [Value.oneCell']) fun w h => ?_; try dsimp only [List.set, setL, List.eraseIdx, List.cons_append, List.nil_append, List.append_nil, Nat.zero_add, Nat.reduceAdd, Sl.v] at h)
      | (refine t_stB h 9 rfl (by simp [setL]) (by simp [Value.oneCell']) fun w h => ?_; try dsimp only [List.set, setL, List.eraseIdx, List.cons_append, List.nil_append, List.append_nil, Nat.zero_add, Nat.reduceAdd, Sl.v] at h)
      | refine t_newB h (by simp [Value.oneCell']) fun w b h hb => ?_
      | refine t_nil ?_
      | refine t_true rfl ?_
      | refine t_false rfl ?_
      | refine t_yes rfl ?_
      | refine t_nyes rfl ?_
      | refine t_no (by decide) ?_
      | refine t_nno (by decide) ?_
      | refine t_need (by decide) ?_)
    try dsimp only [List.set, setL, List.eraseIdx, List.cons_append, List.nil_append, List.append_nil, Nat.zero_add, Nat.reduceAdd, Sl.v] at h
    refine t_ret ⟨rfl, ?_⟩
    exact dq_close (M.tellQ q) h
theorem drvq_Ask_con {qb mb : Nat} {l : List UInt8} {q : M.DQ} (e : M.Ev) (hf : i64R e.off ∧ i64R e.fl) (hL : M.layCheck l.length q.l = 0) (hl : l.length ≤ 1048576) :
    Con Tryz.prog NoRo 15 #[.pointer (some ⟨qb, 0, none⟩), Ev.v e] .I [dqR qb mb q, memR mb l] (M.askE l q e) [dqR qb mb q, memR mb (M.askM l q e)] := by
  intro w0 W w B _ h
  refine drvq_Queue_Ask.calls ⟨qb, 0, none⟩ (e.off, e.wrap, e.fl, ()) ?_
  unfold drvq_Queue_Ask.T
  have hy := layCheck_ok hL
  repeat (first
    | refine t_tickS h fun w h => ?_
    | refine t_keepN ?_
    | refine t_ldB h 0 rfl rfl ?_
    | refine t_ldB h 1 rfl rfl ?_
    | refine t_ldB h 2 rfl rfl ?_
    | refine t_ldB h 3 rfl rfl ?_
    | refine t_ldB h 4 rfl rfl ?_
    | refine t_ldB h 5 rfl rfl ?_
    | refine t_ldB h 6 rfl rfl ?_
    | refine t_ldB h 7 rfl rfl ?_
    | refine t_ldB h 8 rfl rfl ?_
    | refine t_ldB h 9 rfl rfl ?_
    | refine t_ldO h 0 rfl rfl rfl ?_
    | refine t_ldO h 1 rfl rfl rfl ?_
    | refine t_ldO h 2 rfl rfl rfl ?_
    | refine t_ldO h 3 rfl rfl rfl ?_
    | refine t_ldO h 4 rfl rfl rfl ?_
    | refine t_ldO h 5 rfl rfl rfl ?_
    | refine t_ldO h 6 rfl rfl rfl ?_
    | refine t_ldO h 7 rfl rfl rfl ?_
    | refine t_ldO h 8 rfl rfl rfl ?_
    | refine t_ldO h 9 rfl rfl rfl ?_
    | refine t_keepB h 0 rfl rfl ?_
    | refine t_keepB h 1 rfl rfl ?_
    | refine t_keepB h 2 rfl rfl ?_
    | refine t_keepB h 3 rfl rfl ?_
    | refine t_keepB h 4 rfl rfl ?_
    | refine t_keepB h 5 rfl rfl ?_
    | refine t_keepB h 6 rfl rfl ?_
    | refine t_keepB h 7 rfl rfl ?_
    | refine t_keepB h 8 rfl rfl ?_
    | refine t_keepB h 9 rfl rfl ?_
    | (refine t_stB h 0 rfl (by simp [setL]) (by simp [Value.oneCell']) fun w h => ?_; try dsimp only [List.set, setL, List.eraseIdx, List.cons_append, List.nil_append, List.append_nil, Nat.zero_add, Nat.reduceAdd, Sl.v] at h)
    | (refine t_stB h 1 rfl (by simp [setL]) (by simp [Value.oneCell']) fun w h => ?_; try dsimp only [List.set, setL, List.eraseIdx, List.cons_append, List.nil_append, List.append_nil, Nat.zero_add, Nat.reduceAdd, Sl.v] at h)
    | (refine t_stB h 2 rfl (by simp [setL]) (by simp [Value.oneCell']) fun w h => ?_; try dsimp only [List.set, setL, List.eraseIdx, List.cons_append, List.nil_append, List.append_nil, Nat.zero_add, Nat.reduceAdd, Sl.v] at h)
    | (refine t_stB h 3 rfl (by simp [setL]) (by simp [Value.oneCell']) fun w h => ?_; try dsimp only [List.set, setL, List.eraseIdx, List.cons_append, List.nil_append, List.append_nil, Nat.zero_add, Nat.reduceAdd, Sl.v] at h)
    | (refine t_stB h 4 rfl (by simp [setL]) (by simp [Value.oneCell']) fun w h => ?_; try dsimp only [List.set, setL, List.eraseIdx, List.cons_append, List.nil_append, List.append_nil, Nat.zero_add, Nat.reduceAdd, Sl.v] at h)
    | (refine t_stB h 5 rfl (by simp [setL]) (by simp [Value.oneCell']) fun w h => ?_; try dsimp only [List.set, setL, List.eraseIdx, List.cons_append, List.nil_append, List.append_nil, Nat.zero_add, Nat.reduceAdd, Sl.v] at h)
    | (refine t_stB h 6 rfl (by simp [setL]) (by simp [Value.oneCell']) fun w h => ?_; try dsimp only [List.set, setL, List.eraseIdx, List.cons_append, List.nil_append, List.append_nil, Nat.zero_add, Nat.reduceAdd, Sl.v] at h)
    | (refine t_stB h 7 rfl (by simp [setL]) (by simp [Value.oneCell']) fun w h => ?_; try dsimp only [List.set, setL, List.eraseIdx, List.cons_append, List.nil_append, List.append_nil, Nat.zero_add, Nat.reduceAdd, Sl.v] at h)
    | (refine t_stB h 8 rfl (by simp [setL]) (by simp [Value.oneCell']) fun w h => ?_; try dsimp only [List.set, setL, List.eraseIdx, List.cons_append, List.nil_append, List.append_nil, Nat.zero_add, Nat.reduceAdd, Sl.v] at h)
    | (refine t_stB h 9 rfl (by simp [setL]) (by simp [Value.oneCell']) fun w h => ?_; try dsimp only [List.set, setL, List.eraseIdx, List.cons_append, List.nil_append, List.append_nil, Nat.zero_add, Nat.reduceAdd, Sl.v] at h)
    | refine t_newB h (by simp [Value.oneCell']) fun w b h hb => ?_
    | refine t_nil ?_
    | refine t_true rfl ?_
    | refine t_false rfl ?_
    | refine t_yes rfl ?_
    | refine t_nyes rfl ?_
    | refine t_no (by decide) ?_
    | refine t_nno (by decide) ?_
    | refine t_need (by decide) ?_)
  try dsimp only [List.set, setL, List.eraseIdx, List.cons_append, List.nil_append, List.append_nil, Nat.zero_add, Nat.reduceAdd, Sl.v] at h
  first | refine t_fn (spot_Build_con e hf) h (by repeat (first | exact Sub.nil _ | apply Sub.c0 | apply Sub.c1 | apply Sub.c2 | apply Sub.c3 | apply Sub.c4 | apply Sub.c5 | apply Sub.c6 | apply Sub.c7 | apply Sub.c8 | apply Sub.c9 | apply Sub.c10 | apply Sub.c11 | exact Sub.refl _)) noRo fun w h => ?_ | refine t_fnn (spot_Build_con e hf) h (by repeat (first | exact Sub.nil _ | apply Sub.c0 | apply Sub.c1 | apply Sub.c2 | apply Sub.c3 | apply Sub.c4 | apply Sub.c5 | apply Sub.c6 | apply Sub.c7 | apply Sub.c8 | apply Sub.c9 | apply Sub.c10 | apply Sub.c11 | exact Sub.refl _)) noRo fun w h => ?_
  try dsimp only [List.set, setL, List.eraseIdx, List.cons_append, List.nil_append, List.append_nil, Nat.zero_add, Nat.reduceAdd, Sl.v] at h
  unfold M.askE M.askM
  by_cases hok : e.ok
  · rw [if_pos hok, if_pos hok, if_pos hok, if_pos hok]
    refine t_nyes rfl (t_tickS h fun w h => ?_)
    replace h : St w0 W w (dqR qb mb q :: memR mb l :: B) := h.weak (by repeat (first | exact Weak.refl _ | apply Weak.c0 | apply Weak.c1 | apply Weak.c2 | apply Weak.c3 | apply Weak.c4 | apply Weak.c5 | apply Weak.c6 | apply Weak.c7 | apply Weak.c8 | apply Weak.c9 | apply Weak.c10 | apply Weak.c11 | apply Weak.drop))
    obtain ⟨r, h⟩ := dq_open h
    repeat (first
      | refine t_tickS h fun w h => ?_
      | refine t_keepN ?_
      | refine t_ldB h 0 rfl rfl ?_
      | refine t_ldB h 1 rfl rfl ?_
      | refine t_ldB h 2 rfl rfl ?_
      | refine t_ldB h 3 rfl rfl ?_
      | refine t_ldB h 4 rfl rfl ?_
      | refine t_ldB h 5 rfl rfl ?_
      | refine t_ldB h 6 rfl rfl ?_
      | refine t_ldB h 7 rfl rfl ?_
      | refine t_ldB h 8 rfl rfl ?_
      | refine t_ldB h 9 rfl rfl ?_
      | refine t_ldO h 0 rfl rfl rfl ?_
      | refine t_ldO h 1 rfl rfl rfl ?_
      | refine t_ldO h 2 rfl rfl rfl ?_
      | refine t_ldO h 3 rfl rfl rfl ?_
      | refine t_ldO h 4 rfl rfl rfl ?_
      | refine t_ldO h 5 rfl rfl rfl ?_
      | refine t_ldO h 6 rfl rfl rfl ?_
      | refine t_ldO h 7 rfl rfl rfl ?_
      | refine t_ldO h 8 rfl rfl rfl ?_
      | refine t_ldO h 9 rfl rfl rfl ?_
      | refine t_keepB h 0 rfl rfl ?_
      | refine t_keepB h 1 rfl rfl ?_
      | refine t_keepB h 2 rfl rfl ?_
      | refine t_keepB h 3 rfl rfl ?_
      | refine t_keepB h 4 rfl rfl ?_
      | refine t_keepB h 5 rfl rfl ?_
      | refine t_keepB h 6 rfl rfl ?_
      | refine t_keepB h 7 rfl rfl ?_
      | refine t_keepB h 8 rfl rfl ?_
      | refine t_keepB h 9 rfl rfl ?_
      | (refine t_stB h 0 rfl (by simp [setL]) (by simp [Value.oneCell']) fun w h => ?_; try dsimp only [List.set, setL, List.eraseIdx, List.cons_append, List.nil_append, List.append_nil, Nat.zero_add, Nat.reduceAdd, Sl.v] at h)
      | (refine t_stB h 1 rfl (by simp [setL]) (by simp [Value.oneCell']) fun w h => ?_; try dsimp only [List.set, setL, List.eraseIdx, List.cons_append, List.nil_append, List.append_nil, Nat.zero_add, Nat.reduceAdd, Sl.v] at h)
      | (refine t_stB h 2 rfl (by simp [setL]) (by simp [Value.oneCell']) fun w h => ?_; try dsimp only [List.set, setL, List.eraseIdx, List.cons_append, List.nil_append, List.append_nil, Nat.zero_add, Nat.reduceAdd, Sl.v] at h)
      | (refine t_stB h 3 rfl (by simp [setL]) (by simp [Value.oneCell']) fun w h => ?_; try dsimp only [List.set, setL, List.eraseIdx, List.cons_append, List.nil_append, List.append_nil, Nat.zero_add, Nat.reduceAdd, Sl.v] at h)
      | (refine t_stB h 4 rfl (by simp [setL]) (by simp [Value.oneCell']) fun w h => ?_; try dsimp only [List.set, setL, List.eraseIdx, List.cons_append, List.nil_append, List.append_nil, Nat.zero_add, Nat.reduceAdd, Sl.v] at h)
      | (refine t_stB h 5 rfl (by simp [setL]) (by simp [Value.oneCell']) fun w h => ?_; try dsimp only [List.set, setL, List.eraseIdx, List.cons_append, List.nil_append, List.append_nil, Nat.zero_add, Nat.reduceAdd, Sl.v] at h)
      | (refine t_stB h 6 rfl (by simp [setL]) (by simp [Value.oneCell']) fun w h => ?_; try dsimp only [List.set, setL, List.eraseIdx, List.cons_append, List.nil_append, List.append_nil, Nat.zero_add, Nat.reduceAdd, Sl.v] at h)
      | (refine t_stB h 7 rfl (by simp [setL]) (by simp [Value.oneCell']) fun w h => ?_; try dsimp only [List.set, setL, List.eraseIdx, List.cons_append, List.nil_append, List.append_nil, Nat.zero_add, Nat.reduceAdd, Sl.v] at h)
      | (refine t_stB h 8 rfl (by simp [setL]) (by simp [Value.oneCell']) fun w h => ?_; try dsimp only [List.set, setL, List.eraseIdx, List.cons_append, List.nil_append, List.append_nil, Nat.zero_add, Nat.reduceAdd, Sl.v] at h)
      | (refine t_stB h 9 rfl (by simp [setL]) (by simp [Value.oneCell']) fun w h => ?_; try dsimp only [List.set, setL, List.eraseIdx, List.cons_append, List.nil_append, List.append_nil, Nat.zero_add, Nat.reduceAdd, Sl.v] at h)
      | refine t_newB h (by simp [Value.oneCell']) fun w b h hb => ?_
      | refine t_nil ?_
      | refine t_true rfl ?_
      | refine t_false rfl ?_
      | refine t_yes rfl ?_
      | refine t_nyes rfl ?_
      | refine t_no (by decide) ?_
      | refine t_nno (by decide) ?_
      | refine t_need (by decide) ?_)
    try dsimp only [List.set, setL, List.eraseIdx, List.cons_append, List.nil_append, List.append_nil, Nat.zero_add, Nat.reduceAdd, Sl.v] at h
    first | refine t_fn (gmem_Write_fn q.l.drv (M.evB e) (by unfold i64R; omega) (by rw [evB_length]; decide)) h (by repeat (first | exact Sub.nil _ | apply Sub.c0 | apply Sub.c1 | apply Sub.c2 | apply Sub.c3 | apply Sub.c4 | apply Sub.c5 | apply Sub.c6 | apply Sub.c7 | apply Sub.c8 | apply Sub.c9 | apply Sub.c10 | apply Sub.c11 | exact Sub.refl _)) noRo fun w h => ?_ | refine t_fnn (gmem_Write_fn q.l.drv (M.evB e) (by unfold i64R; omega) (by rw [evB_length]; decide)) h (by repeat (first | exact Sub.nil _ | apply Sub.c0 | apply Sub.c1 | apply Sub.c2 | apply Sub.c3 | apply Sub.c4 | apply Sub.c5 | apply Sub.c6 | apply Sub.c7 | apply Sub.c8 | apply Sub.c9 | apply Sub.c10 | apply Sub.c11 | exact Sub.refl _)) noRo fun w h => ?_
    try dsimp only [List.set, setL, List.eraseIdx, List.cons_append, List.nil_append, List.append_nil, Nat.zero_add, Nat.reduceAdd, Sl.v] at h
    exact t_ret ⟨rfl, (dq_shut q h (by repeat (first | exact Sub.nil _ | apply Sub.c0 | apply Sub.c1 | apply Sub.c2 | apply Sub.c3 | apply Sub.c4 | apply Sub.c5 | apply Sub.c6 | apply Sub.c7 | apply Sub.c8 | apply Sub.c9 | apply Sub.c10 | apply Sub.c11 | exact Sub.refl _))).weak (by repeat (first | exact Weak.refl _ | apply Weak.c0 | apply Weak.c1 | apply Weak.c2 | apply Weak.c3 | apply Weak.c4 | apply Weak.c5 | apply Weak.c6 | apply Weak.c7 | apply Weak.c8 | apply Weak.c9 | apply Weak.c10 | apply Weak.c11 | apply Weak.drop))⟩
  · rw [if_neg hok, if_neg hok, if_neg hok, if_neg hok]
    exact t_nno (by decide) (t_ret ⟨rfl, h.weak (by repeat (first | exact Weak.refl _ | apply Weak.c0 | apply Weak.c1 | apply Weak.c2 | apply Weak.c3 | apply Weak.c4 | apply Weak.c5 | apply Weak.c6 | apply Weak.c7 | apply Weak.c8 | apply Weak.c9 | apply Weak.c10 | apply Weak.c11 | apply Weak.drop))⟩)
theorem kq_open {w0 w : World} {W : List Nat} {B : List Res} {qb mb : Nat} {q : M.KQ} (h : St w0 W w (kqR qb mb q :: B)) : ∃ s, St w0 W w (blkR qb [.pointer (some ⟨mb, 0, none⟩), .int .i64 q.l.ring, .int .i64 q.l.size, .int .i64 q.l.drv, .int .i64 q.l.dev, .int .i64 q.nx.at_, .bool q.nx.wrap, .int .i64 q.bk.at_, .bool q.bk.wrap, .int .i64 q.told.at_, .bool q.told.wrap, .int .i64 q.since, .slice s.a s.n s.c] 48 :: ownR s 3 1 (intsV q.sizes) :: B) := by
  obtain ⟨s, h⟩ := h.ex
  exact ⟨s, h.open⟩
theorem kq_shut {w0 w : World} {W : List Nat} {Rs rest : List Res} {qb mb : Nat} {s : Sl} (q : M.KQ) (h : St w0 W w Rs) (hs : Vk.Sub Rs [blkR qb [.pointer (some ⟨mb, 0, none⟩), .int .i64 q.l.ring, .int .i64 q.l.size, .int .i64 q.l.drv, .int .i64 q.l.dev, .int .i64 q.nx.at_, .bool q.nx.wrap, .int .i64 q.bk.at_, .bool q.bk.wrap, .int .i64 q.told.at_, .bool q.told.wrap, .int .i64 q.since, .slice s.a s.n s.c] 48, ownR s 3 1 (intsV q.sizes)] rest) : St w0 W w (kqR qb mb q :: rest) :=
  St.inj s (St.close [_, _] (h.sub hs))
/-- The two count alike. -/
def SinceOk (q : M.DQ) (since : Int) : Prop := 0 ≤ since ∧ since ≤ 1000000 ∧ q.since = min since (2 * q.l.size)
theorem R15_Free_con {qb mb : Nat} {q : M.DQ} {since : Int} (hq : q.Inv) : Con Tryz.prog NoRo 32 #[.pointer (some ⟨qb, 0, none⟩)] .I [kqR qb mb (M.kOf q since)] q.free [kqR qb mb (M.kOf q since)] := by
  intro w0 W w B _ h
  refine aqueductref15_Queue_Free.calls ⟨qb, 0, none⟩ ?_
  unfold aqueductref15_Queue_Free.T
  have hsz := hq.ok.size
  obtain ⟨s, h⟩ := kq_open h
  have hsum := sum_sizes q.held q.l.size.toNat (fun p hp => by have := hq.ids p hp; omega) hq.nodup
  have hs := hq.sum
  have hn : s.n = q.l.size.toNat := by
    have := (own_n h 1 rfl).1
    simp only [intsV, List.length_map, M.kOf, sizesOf_length] at this; omega
  repeat (first
    | refine t_tickS h fun w h => ?_
    | refine t_keepN ?_
    | refine t_ldB h 0 rfl rfl ?_
    | refine t_ldB h 1 rfl rfl ?_
    | refine t_ldB h 2 rfl rfl ?_
    | refine t_ldB h 3 rfl rfl ?_
    | refine t_ldB h 4 rfl rfl ?_
    | refine t_ldB h 5 rfl rfl ?_
    | refine t_ldB h 6 rfl rfl ?_
    | refine t_ldB h 7 rfl rfl ?_
    | refine t_ldB h 8 rfl rfl ?_
    | refine t_ldB h 9 rfl rfl ?_
    | refine t_ldO h 0 rfl rfl rfl ?_
    | refine t_ldO h 1 rfl rfl rfl ?_
    | refine t_ldO h 2 rfl rfl rfl ?_
    | refine t_ldO h 3 rfl rfl rfl ?_
    | refine t_ldO h 4 rfl rfl rfl ?_
    | refine t_ldO h 5 rfl rfl rfl ?_
    | refine t_ldO h 6 rfl rfl rfl ?_
    | refine t_ldO h 7 rfl rfl rfl ?_
    | refine t_ldO h 8 rfl rfl rfl ?_
    | refine t_ldO h 9 rfl rfl rfl ?_
    | refine t_keepB h 0 rfl rfl ?_
    | refine t_keepB h 1 rfl rfl ?_
    | refine t_keepB h 2 rfl rfl ?_
    | refine t_keepB h 3 rfl rfl ?_
    | refine t_keepB h 4 rfl rfl ?_
    | refine t_keepB h 5 rfl rfl ?_
    | refine t_keepB h 6 rfl rfl ?_
    | refine t_keepB h 7 rfl rfl ?_
    | refine t_keepB h 8 rfl rfl ?_
    | refine t_keepB h 9 rfl rfl ?_
    | (refine t_stB h 0 rfl (by simp [setL]) (by simp [Value.oneCell']) fun w h => ?_; try dsimp only [List.set, setL, List.eraseIdx, List.cons_append, List.nil_append, List.append_nil, Nat.zero_add, Nat.reduceAdd, Sl.v] at h)
    | (refine t_stB h 1 rfl (by simp [setL]) (by simp [Value.oneCell']) fun w h => ?_; try dsimp only [List.set, setL, List.eraseIdx, List.cons_append, List.nil_append, List.append_nil, Nat.zero_add, Nat.reduceAdd, Sl.v] at h)
    | (refine t_stB h 2 rfl (by simp [setL]) (by simp [Value.oneCell']) fun w h => ?_; try dsimp only [List.set, setL, List.eraseIdx, List.cons_append, List.nil_append, List.append_nil, Nat.zero_add, Nat.reduceAdd, Sl.v] at h)
    | (refine t_stB h 3 rfl (by simp [setL]) (by simp [Value.oneCell']) fun w h => ?_; try dsimp only [List.set, setL, List.eraseIdx, List.cons_append, List.nil_append, List.append_nil, Nat.zero_add, Nat.reduceAdd, Sl.v] at h)
    | (refine t_stB h 4 rfl (by simp [setL]) (by simp [Value.oneCell']) fun w h => ?_; try dsimp only [List.set, setL, List.eraseIdx, List.cons_append, List.nil_append, List.append_nil, Nat.zero_add, Nat.reduceAdd, Sl.v] at h)
    | (refine t_stB h 5 rfl (by simp [setL]) (by simp [Value.oneCell']) fun w h => ?_; try dsimp only [List.set, setL, List.eraseIdx, List.cons_append, List.nil_append, List.append_nil, Nat.zero_add, Nat.reduceAdd, Sl.v] at h)
    | (refine t_stB h 6 rfl (by simp [setL]) (by simp [Value.oneCell']) fun w h => ?_; try dsimp only [List.set, setL, List.eraseIdx, List.cons_append, List.nil_append, List.append_nil, Nat.zero_add, Nat.reduceAdd, Sl.v] at h)
    | (refine t_stB h 7 rfl (by simp [setL]) (by simp [Value.oneCell']) fun w h => ?_; try dsimp only [List.set, setL, List.eraseIdx, List.cons_append, List.nil_append, List.append_nil, Nat.zero_add, Nat.reduceAdd, Sl.v] at h)
    | (refine t_stB h 8 rfl (by simp [setL]) (by simp [Value.oneCell']) fun w h => ?_; try dsimp only [List.set, setL, List.eraseIdx, List.cons_append, List.nil_append, List.append_nil, Nat.zero_add, Nat.reduceAdd, Sl.v] at h)
    | (refine t_stB h 9 rfl (by simp [setL]) (by simp [Value.oneCell']) fun w h => ?_; try dsimp only [List.set, setL, List.eraseIdx, List.cons_append, List.nil_append, List.append_nil, Nat.zero_add, Nat.reduceAdd, Sl.v] at h)
    | refine t_newB h (by simp [Value.oneCell']) fun w b h hb => ?_
    | refine t_nil ?_
    | refine t_true rfl ?_
    | refine t_false rfl ?_
    | refine t_yes rfl ?_
    | refine t_nyes rfl ?_
    | refine t_no (by decide) ?_
    | refine t_nno (by decide) ?_
    | refine t_need (by decide) ?_)
  try dsimp only [List.set, setL, List.eraseIdx, List.cons_append, List.nil_append, List.append_nil, Nat.zero_add, Nat.reduceAdd, Sl.v] at h
  have hrng : ∀ k, 0 ≤ sumN (fun i => M.sizeOf q.held (i : Int)) k ∧ sumN (fun i => M.sizeOf q.held (i : Int)) k ≤ 64 * k := sumN_range _ 64 (fun i => sizeOf_range hq.ok.pos) (by omega)
  refine t_loop (fun m st w' => ∃ k : Nat, k ≤ q.l.size.toNat ∧ m = q.l.size.toNat - k ∧ st = (q.l.size - sumN (fun i => M.sizeOf q.held (i : Int)) k, (k : Int), ()) ∧ w' = w) q.l.size.toNat ⟨0, by omega, rfl, by simp [sumN, M.kOf], rfl⟩ ?_
  rintro m st w' ⟨k, hk, rfl, rfl, hw⟩ Ks hJ _
  subst hw
  dsimp only
  repeat (first
    | refine t_tickS h fun w h => ?_
    | refine t_keepN ?_
    | refine t_ldB h 0 rfl rfl ?_
    | refine t_ldB h 1 rfl rfl ?_
    | refine t_ldB h 2 rfl rfl ?_
    | refine t_ldB h 3 rfl rfl ?_
    | refine t_ldB h 4 rfl rfl ?_
    | refine t_ldB h 5 rfl rfl ?_
    | refine t_ldB h 6 rfl rfl ?_
    | refine t_ldB h 7 rfl rfl ?_
    | refine t_ldB h 8 rfl rfl ?_
    | refine t_ldB h 9 rfl rfl ?_
    | refine t_ldO h 0 rfl rfl rfl ?_
    | refine t_ldO h 1 rfl rfl rfl ?_
    | refine t_ldO h 2 rfl rfl rfl ?_
    | refine t_ldO h 3 rfl rfl rfl ?_
    | refine t_ldO h 4 rfl rfl rfl ?_
    | refine t_ldO h 5 rfl rfl rfl ?_
    | refine t_ldO h 6 rfl rfl rfl ?_
    | refine t_ldO h 7 rfl rfl rfl ?_
    | refine t_ldO h 8 rfl rfl rfl ?_
    | refine t_ldO h 9 rfl rfl rfl ?_
    | refine t_keepB h 0 rfl rfl ?_
    | refine t_keepB h 1 rfl rfl ?_
    | refine t_keepB h 2 rfl rfl ?_
    | refine t_keepB h 3 rfl rfl ?_
    | refine t_keepB h 4 rfl rfl ?_
    | refine t_keepB h 5 rfl rfl ?_
    | refine t_keepB h 6 rfl rfl ?_
    | refine t_keepB h 7 rfl rfl ?_
    | refine t_keepB h 8 rfl rfl ?_
    | refine t_keepB h 9 rfl rfl ?_
    | (refine t_stB h 0 rfl (by simp [setL]) (by simp [Value.oneCell']) fun w h => ?_; try dsimp only [List.set, setL, List.eraseIdx, List.cons_append, List.nil_append, List.append_nil, Nat.zero_add, Nat.reduceAdd, Sl.v] at h)
    | (refine t_stB h 1 rfl (by simp [setL]) (by simp [Value.oneCell']) fun w h => ?_; try dsimp only [List.set, setL, List.eraseIdx, List.cons_append, List.nil_append, List.append_nil, Nat.zero_add, Nat.reduceAdd, Sl.v] at h)
    | (refine t_stB h 2 rfl (by simp [setL]) (by simp [Value.oneCell']) fun w h => ?_; try dsimp only [List.set, setL, List.eraseIdx, List.cons_append, List.nil_append, List.append_nil, Nat.zero_add, Nat.reduceAdd, Sl.v] at h)
    | (refine t_stB h 3 rfl (by simp [setL]) (by simp [Value.oneCell']) fun w h => ?_; try dsimp only [List.set, setL, List.eraseIdx, List.cons_append, List.nil_append, List.append_nil, Nat.zero_add, Nat.reduceAdd, Sl.v] at h)
    | (refine t_stB h 4 rfl (by simp [setL]) (by simp [Value.oneCell']) fun w h => ?_; try dsimp only [List.set, setL, List.eraseIdx, List.cons_append, List.nil_append, List.append_nil, Nat.zero_add, Nat.reduceAdd, Sl.v] at h)
    | (refine t_stB h 5 rfl (by simp [setL]) (by simp [Value.oneCell']) fun w h => ?_; try dsimp only [List.set, setL, List.eraseIdx, List.cons_append, List.nil_append, List.append_nil, Nat.zero_add, Nat.reduceAdd, Sl.v] at h)
    | (refine t_stB h 6 rfl (by simp [setL]) (by simp [Value.oneCell']) fun w h => ?_; try dsimp only [List.set, setL, List.eraseIdx, List.cons_append, List.nil_append, List.append_nil, Nat.zero_add, Nat.reduceAdd, Sl.v] at h)
    | (refine t_stB h 7 rfl (by simp [setL]) (by simp [Value.oneCell']) fun w h => ?_; try dsimp only [List.set, setL, List.eraseIdx, List.cons_append, List.nil_append, List.append_nil, Nat.zero_add, Nat.reduceAdd, Sl.v] at h)
    | (refine t_stB h 8 rfl (by simp [setL]) (by simp [Value.oneCell']) fun w h => ?_; try dsimp only [List.set, setL, List.eraseIdx, List.cons_append, List.nil_append, List.append_nil, Nat.zero_add, Nat.reduceAdd, Sl.v] at h)
    | (refine t_stB h 9 rfl (by simp [setL]) (by simp [Value.oneCell']) fun w h => ?_; try dsimp only [List.set, setL, List.eraseIdx, List.cons_append, List.nil_append, List.append_nil, Nat.zero_add, Nat.reduceAdd, Sl.v] at h)
    | refine t_newB h (by simp [Value.oneCell']) fun w b h hb => ?_
    | refine t_nil ?_
    | refine t_true rfl ?_
    | refine t_false rfl ?_
    | refine t_yes rfl ?_
    | refine t_nyes rfl ?_
    | refine t_no (by decide) ?_
    | refine t_nno (by decide) ?_
    | refine t_need (by decide) ?_)
  try dsimp only [List.set, setL, List.eraseIdx, List.cons_append, List.nil_append, List.append_nil, Nat.zero_add, Nat.reduceAdd, Sl.v] at h
  refine t_if (fun c1 => ?_) (fun c1 => ?_) <;> dsimp only at c1
  · repeat (first
      | refine t_tickS h fun w h => ?_
      | refine t_keepN ?_
      | refine t_ldB h 0 rfl rfl ?_
      | refine t_ldB h 1 rfl rfl ?_
      | refine t_ldB h 2 rfl rfl ?_
      | refine t_ldB h 3 rfl rfl ?_
      | refine t_ldB h 4 rfl rfl ?_
      | refine t_ldB h 5 rfl rfl ?_
      | refine t_ldB h 6 rfl rfl ?_
      | refine t_ldB h 7 rfl rfl ?_
      | refine t_ldB h 8 rfl rfl ?_
      | refine t_ldB h 9 rfl rfl ?_
      | refine t_ldO h 0 rfl rfl rfl ?_
      | refine t_ldO h 1 rfl rfl rfl ?_
      | refine t_ldO h 2 rfl rfl rfl ?_
      | refine t_ldO h 3 rfl rfl rfl ?_
      | refine t_ldO h 4 rfl rfl rfl ?_
      | refine t_ldO h 5 rfl rfl rfl ?_
      | refine t_ldO h 6 rfl rfl rfl ?_
      | refine t_ldO h 7 rfl rfl rfl ?_
      | refine t_ldO h 8 rfl rfl rfl ?_
      | refine t_ldO h 9 rfl rfl rfl ?_
      | refine t_keepB h 0 rfl rfl ?_
      | refine t_keepB h 1 rfl rfl ?_
      | refine t_keepB h 2 rfl rfl ?_
      | refine t_keepB h 3 rfl rfl ?_
      | refine t_keepB h 4 rfl rfl ?_
      | refine t_keepB h 5 rfl rfl ?_
      | refine t_keepB h 6 rfl rfl ?_
      | refine t_keepB h 7 rfl rfl ?_
      | refine t_keepB h 8 rfl rfl ?_
      | refine t_keepB h 9 rfl rfl ?_
      | (refine t_stB h 0 rfl (by simp [setL]) (by simp [Value.oneCell']) fun w h => ?_; try dsimp only [List.set, setL, List.eraseIdx, List.cons_append, List.nil_append, List.append_nil, Nat.zero_add, Nat.reduceAdd, Sl.v] at h)
      | (refine t_stB h 1 rfl (by simp [setL]) (by simp [Value.oneCell']) fun w h => ?_; try dsimp only [List.set, setL, List.eraseIdx, List.cons_append, List.nil_append, List.append_nil, Nat.zero_add, Nat.reduceAdd, Sl.v] at h)
      | (refine t_stB h 2 rfl (by simp [setL]) (by simp [Value.oneCell']) fun w h => ?_; try dsimp only [List.set, setL, List.eraseIdx, List.cons_append, List.nil_append, List.append_nil, Nat.zero_add, Nat.reduceAdd, Sl.v] at h)
      | (refine t_stB h 3 rfl (by simp [setL]) (by simp [Value.oneCell']) fun w h => ?_; try dsimp only [List.set, setL, List.eraseIdx, List.cons_append, List.nil_append, List.append_nil, Nat.zero_add, Nat.reduceAdd, Sl.v] at h)
      | (refine t_stB h 4 rfl (by simp [setL]) (by simp [Value.oneCell']) fun w h => ?_; try dsimp only [List.set, setL, List.eraseIdx, List.cons_append, List.nil_append, List.append_nil, Nat.zero_add, Nat.reduceAdd, Sl.v] at h)
      | (refine t_stB h 5 rfl (by simp [setL]) (by simp [Value.oneCell']) fun w h => ?_; try dsimp only [List.set, setL, List.eraseIdx, List.cons_append, List.nil_append, List.append_nil, Nat.zero_add, Nat.reduceAdd, Sl.v] at h)
      | (refine t_stB h 6 rfl (by simp [setL]) (by simp [Value.oneCell']) fun w h => ?_; try dsimp only [List.set, setL, List.eraseIdx, List.cons_append, List.nil_append, List.append_nil, Nat.zero_add, Nat.reduceAdd, Sl.v] at h)
      | (refine t_stB h 7 rfl (by simp [setL]) (by simp [Value.oneCell']) fun w h => ?_; try dsimp only [List.set, setL, List.eraseIdx, List.cons_append, List.nil_append, List.append_nil, Nat.zero_add, Nat.reduceAdd, Sl.v] at h)
      | (refine t_stB h 8 rfl (by simp [setL]) (by simp [Value.oneCell']) fun w h => ?_; try dsimp only [List.set, setL, List.eraseIdx, List.cons_append, List.nil_append, List.append_nil, Nat.zero_add, Nat.reduceAdd, Sl.v] at h)
      | (refine t_stB h 9 rfl (by simp [setL]) (by simp [Value.oneCell']) fun w h => ?_; try dsimp only [List.set, setL, List.eraseIdx, List.cons_append, List.nil_append, List.append_nil, Nat.zero_add, Nat.reduceAdd, Sl.v] at h)
      | refine t_newB h (by simp [Value.oneCell']) fun w b h hb => ?_
      | refine t_nil ?_
      | refine t_true rfl ?_
      | refine t_false rfl ?_
      | refine t_yes rfl ?_
      | refine t_nyes rfl ?_
      | refine t_no (by decide) ?_
      | refine t_nno (by decide) ?_
      | refine t_need (by decide) ?_)
    try dsimp only [List.set, setL, List.eraseIdx, List.cons_append, List.nil_append, List.append_nil, Nat.zero_add, Nat.reduceAdd, Sl.v] at h
    have hr1 := hrng k
    have hr2 := hrng (k + 1)
    refine t_need (by dsimp only; omega) (t_nilO (s := s) h 1 rfl (by omega) fun a ha => ?_)
    rw [Int.toNat_natCast]
    refine t_ldO (s := s) h 1 rfl ha (x := M.sizeOf q.held (k : Int)) (by rw [intsV_get (by simp only [M.kOf, sizesOf_length]; omega)]; simp only [M.kOf]; rw [sizesOf_get _ (by omega)]; rfl) ?_
    have e : IntKind.i64.wrap (q.l.size - sumN (fun i => M.sizeOf q.held (i : Int)) k - M.sizeOf q.held (k : Int)) = q.l.size - sumN (fun i => M.sizeOf q.held (i : Int)) (k + 1) := by
      rw [w64 (by simp only [sumN] at hr2; omega)]; simp only [sumN]; omega
    rw [e, w64 (n := (k : Int) + 1) (by omega)]
    exact t_next (hJ (q.l.size.toNat - (k + 1)) (q.l.size - sumN (fun i => M.sizeOf q.held (i : Int)) (k + 1), ((k + 1 : Nat) : Int), ()) _ (by omega) ⟨k + 1, by omega, rfl, rfl, rfl⟩)
  · have hke : k = q.l.size.toNat := by omega
    subst hke
    rw [hsum]
    refine t_ret ⟨?_, kq_shut (M.kOf q since) h (by repeat (first | exact Sub.nil _ | apply Sub.c0 | apply Sub.c1 | apply Sub.c2 | apply Sub.c3 | apply Sub.c4 | apply Sub.c5 | apply Sub.c6 | apply Sub.c7 | apply Sub.c8 | apply Sub.c9 | apply Sub.c10 | apply Sub.c11 | exact Sub.refl _))⟩
    rw [show q.l.size - M.sumS q.held = q.free by omega]; rfl
theorem R15_Ask_con {qb mb : Nat} {l : List UInt8} {q : M.DQ} {since : Int} (e : M.Ev) (hf : i64R e.off ∧ i64R e.fl) (hL : M.layCheck l.length q.l = 0) (hl : l.length ≤ 1048576) :
    Con Tryz.prog NoRo 16 #[.pointer (some ⟨qb, 0, none⟩), Ev.v e] .I [kqR qb mb (M.kOf q since), memK mb l] (M.askE l q e) [kqR qb mb (M.kOf q since), memK mb (M.askM l q e)] := by
  intro w0 W w B _ h
  refine aqueductref15_Queue_Ask.calls ⟨qb, 0, none⟩ (e.off, e.wrap, e.fl, ()) ?_
  unfold aqueductref15_Queue_Ask.T
  have hy := layCheck_ok hL
  repeat (first
    | refine t_tickS h fun w h => ?_
    | refine t_keepN ?_
    | refine t_ldB h 0 rfl rfl ?_
    | refine t_ldB h 1 rfl rfl ?_
    | refine t_ldB h 2 rfl rfl ?_
    | refine t_ldB h 3 rfl rfl ?_
    | refine t_ldB h 4 rfl rfl ?_
    | refine t_ldB h 5 rfl rfl ?_
    | refine t_ldB h 6 rfl rfl ?_
    | refine t_ldB h 7 rfl rfl ?_
    | refine t_ldB h 8 rfl rfl ?_
    | refine t_ldB h 9 rfl rfl ?_
    | refine t_ldO h 0 rfl rfl rfl ?_
    | refine t_ldO h 1 rfl rfl rfl ?_
    | refine t_ldO h 2 rfl rfl rfl ?_
    | refine t_ldO h 3 rfl rfl rfl ?_
    | refine t_ldO h 4 rfl rfl rfl ?_
    | refine t_ldO h 5 rfl rfl rfl ?_
    | refine t_ldO h 6 rfl rfl rfl ?_
    | refine t_ldO h 7 rfl rfl rfl ?_
    | refine t_ldO h 8 rfl rfl rfl ?_
    | refine t_ldO h 9 rfl rfl rfl ?_
    | refine t_keepB h 0 rfl rfl ?_
    | refine t_keepB h 1 rfl rfl ?_
    | refine t_keepB h 2 rfl rfl ?_
    | refine t_keepB h 3 rfl rfl ?_
    | refine t_keepB h 4 rfl rfl ?_
    | refine t_keepB h 5 rfl rfl ?_
    | refine t_keepB h 6 rfl rfl ?_
    | refine t_keepB h 7 rfl rfl ?_
    | refine t_keepB h 8 rfl rfl ?_
    | refine t_keepB h 9 rfl rfl ?_
    | (refine t_stB h 0 rfl (by simp [setL]) (by simp [Value.oneCell']) fun w h => ?_; try dsimp only [List.set, setL, List.eraseIdx, List.cons_append, List.nil_append, List.append_nil, Nat.zero_add, Nat.reduceAdd, Sl.v] at h)
    | (refine t_stB h 1 rfl (by simp [setL]) (by simp [Value.oneCell']) fun w h => ?_; try dsimp only [List.set, setL, List.eraseIdx, List.cons_append, List.nil_append, List.append_nil, Nat.zero_add, Nat.reduceAdd, Sl.v] at h)
    | (refine t_stB h 2 rfl (by simp [setL]) (by simp [Value.oneCell']) fun w h => ?_; try dsimp only [List.set, setL, List.eraseIdx, List.cons_append, List.nil_append, List.append_nil, Nat.zero_add, Nat.reduceAdd, Sl.v] at h)
    | (refine t_stB h 3 rfl (by simp [setL]) (by simp [Value.oneCell']) fun w h => ?_; try dsimp only [List.set, setL, List.eraseIdx, List.cons_append, List.nil_append, List.append_nil, Nat.zero_add, Nat.reduceAdd, Sl.v] at h)
    | (refine t_stB h 4 rfl (by simp [setL]) (by simp [Value.oneCell']) fun w h => ?_; try dsimp only [List.set, setL, List.eraseIdx, List.cons_append, List.nil_append, List.append_nil, Nat.zero_add, Nat.reduceAdd, Sl.v] at h)
    | (refine t_stB h 5 rfl (by simp [setL]) (by simp [Value.oneCell']) fun w h => ?_; try dsimp only [List.set, setL, List.eraseIdx, List.cons_append, List.nil_append, List.append_nil, Nat.zero_add, Nat.reduceAdd, Sl.v] at h)
    | (refine t_stB h 6 rfl (by simp [setL]) (by simp [Value.oneCell']) fun w h => ?_; try dsimp only [List.set, setL, List.eraseIdx, List.cons_append, List.nil_append, List.append_nil, Nat.zero_add, Nat.reduceAdd, Sl.v] at h)
    | (refine t_stB h 7 rfl (by simp [setL]) (by simp [Value.oneCell']) fun w h => ?_; try dsimp only [List.set, setL, List.eraseIdx, List.cons_append, List.nil_append, List.append_nil, Nat.zero_add, Nat.reduceAdd, Sl.v] at h)
    | (refine t_stB h 8 rfl (by simp [setL]) (by simp [Value.oneCell']) fun w h => ?_; try dsimp only [List.set, setL, List.eraseIdx, List.cons_append, List.nil_append, List.append_nil, Nat.zero_add, Nat.reduceAdd, Sl.v] at h)
    | (refine t_stB h 9 rfl (by simp [setL]) (by simp [Value.oneCell']) fun w h => ?_; try dsimp only [List.set, setL, List.eraseIdx, List.cons_append, List.nil_append, List.append_nil, Nat.zero_add, Nat.reduceAdd, Sl.v] at h)
    | refine t_newB h (by simp [Value.oneCell']) fun w b h hb => ?_
    | refine t_nil ?_
    | refine t_true rfl ?_
    | refine t_false rfl ?_
    | refine t_yes rfl ?_
    | refine t_nyes rfl ?_
    | refine t_no (by decide) ?_
    | refine t_nno (by decide) ?_
    | refine t_need (by decide) ?_)
  try dsimp only [List.set, setL, List.eraseIdx, List.cons_append, List.nil_append, List.append_nil, Nat.zero_add, Nat.reduceAdd, Sl.v] at h
  first | refine t_fn (R13_Build_con e hf) h (by repeat (first | exact Sub.nil _ | apply Sub.c0 | apply Sub.c1 | apply Sub.c2 | apply Sub.c3 | apply Sub.c4 | apply Sub.c5 | apply Sub.c6 | apply Sub.c7 | apply Sub.c8 | apply Sub.c9 | apply Sub.c10 | apply Sub.c11 | exact Sub.refl _)) noRo fun w h => ?_ | refine t_fnn (R13_Build_con e hf) h (by repeat (first | exact Sub.nil _ | apply Sub.c0 | apply Sub.c1 | apply Sub.c2 | apply Sub.c3 | apply Sub.c4 | apply Sub.c5 | apply Sub.c6 | apply Sub.c7 | apply Sub.c8 | apply Sub.c9 | apply Sub.c10 | apply Sub.c11 | exact Sub.refl _)) noRo fun w h => ?_
  try dsimp only [List.set, setL, List.eraseIdx, List.cons_append, List.nil_append, List.append_nil, Nat.zero_add, Nat.reduceAdd, Sl.v] at h
  unfold M.askE M.askM
  by_cases hok : e.ok
  · rw [if_pos hok, if_pos hok, if_pos hok, if_pos hok]
    refine t_nyes rfl (t_tickS h fun w h => ?_)
    replace h : St w0 W w (kqR qb mb (M.kOf q since) :: memK mb l :: B) := h.weak (by repeat (first | exact Weak.refl _ | apply Weak.c0 | apply Weak.c1 | apply Weak.c2 | apply Weak.c3 | apply Weak.c4 | apply Weak.c5 | apply Weak.c6 | apply Weak.c7 | apply Weak.c8 | apply Weak.c9 | apply Weak.c10 | apply Weak.c11 | apply Weak.drop))
    obtain ⟨s, h⟩ := kq_open h
    repeat (first
      | refine t_tickS h fun w h => ?_
      | refine t_keepN ?_
      | refine t_ldB h 0 rfl rfl ?_
      | refine t_ldB h 1 rfl rfl ?_
      | refine t_ldB h 2 rfl rfl ?_
      | refine t_ldB h 3 rfl rfl ?_
      | refine t_ldB h 4 rfl rfl ?_
      | refine t_ldB h 5 rfl rfl ?_
      | refine t_ldB h 6 rfl rfl ?_
      | refine t_ldB h 7 rfl rfl ?_
      | refine t_ldB h 8 rfl rfl ?_
      | refine t_ldB h 9 rfl rfl ?_
      | refine t_ldO h 0 rfl rfl rfl ?_
      | refine t_ldO h 1 rfl rfl rfl ?_
      | refine t_ldO h 2 rfl rfl rfl ?_
      | refine t_ldO h 3 rfl rfl rfl ?_
      | refine t_ldO h 4 rfl rfl rfl ?_
      | refine t_ldO h 5 rfl rfl rfl ?_
      | refine t_ldO h 6 rfl rfl rfl ?_
      | refine t_ldO h 7 rfl rfl rfl ?_
      | refine t_ldO h 8 rfl rfl rfl ?_
      | refine t_ldO h 9 rfl rfl rfl ?_
      | refine t_keepB h 0 rfl rfl ?_
      | refine t_keepB h 1 rfl rfl ?_
      | refine t_keepB h 2 rfl rfl ?_
      | refine t_keepB h 3 rfl rfl ?_
      | refine t_keepB h 4 rfl rfl ?_
      | refine t_keepB h 5 rfl rfl ?_
      | refine t_keepB h 6 rfl rfl ?_
      | refine t_keepB h 7 rfl rfl ?_
      | refine t_keepB h 8 rfl rfl ?_
      | refine t_keepB h 9 rfl rfl ?_
      | (refine t_stB h 0 rfl (by simp [setL]) (by simp [Value.oneCell']) fun w h => ?_; try dsimp only [List.set, setL, List.eraseIdx, List.cons_append, List.nil_append, List.append_nil, Nat.zero_add, Nat.reduceAdd, Sl.v] at h)
      | (refine t_stB h 1 rfl (by simp [setL]) (by simp [Value.oneCell']) fun w h => ?_; try dsimp only [List.set, setL, List.eraseIdx, List.cons_append, List.nil_append, List.append_nil, Nat.zero_add, Nat.reduceAdd, Sl.v] at h)
      | (refine t_stB h 2 rfl (by simp [setL]) (by simp [Value.oneCell']) fun w h => ?_; try dsimp only [List.set, setL, List.eraseIdx, List.cons_append, List.nil_append, List.append_nil, Nat.zero_add, Nat.reduceAdd, Sl.v] at h)
      | (refine t_stB h 3 rfl (by simp [setL]) (by simp [Value.oneCell']) fun w h => ?_; try dsimp only [List.set, setL, List.eraseIdx, List.cons_append, List.nil_append, List.append_nil, Nat.zero_add, Nat.reduceAdd, Sl.v] at h)
      | (refine t_stB h 4 rfl (by simp [setL]) (by simp [Value.oneCell']) fun w h => ?_; try dsimp only [List.set, setL, List.eraseIdx, List.cons_append, List.nil_append, List.append_nil, Nat.zero_add, Nat.reduceAdd, Sl.v] at h)
      | (refine t_stB h 5 rfl (by simp [setL]) (by simp [Value.oneCell']) fun w h => ?_; try dsimp only [List.set, setL, List.eraseIdx, List.cons_append, List.nil_append, List.append_nil, Nat.zero_add, Nat.reduceAdd, Sl.v] at h)
      | (refine t_stB h 6 rfl (by simp [setL]) (by simp [Value.oneCell']) fun w h => ?_; try dsimp only [List.set, setL, List.eraseIdx, List.cons_append, List.nil_append, List.append_nil, Nat.zero_add, Nat.reduceAdd, Sl.v] at h)
      | (refine t_stB h 7 rfl (by simp [setL]) (by simp [Value.oneCell']) fun w h => ?_; try dsimp only [List.set, setL, List.eraseIdx, List.cons_append, List.nil_append, List.append_nil, Nat.zero_add, Nat.reduceAdd, Sl.v] at h)
      | (refine t_stB h 8 rfl (by simp [setL]) (by simp [Value.oneCell']) fun w h => ?_; try dsimp only [List.set, setL, List.eraseIdx, List.cons_append, List.nil_append, List.append_nil, Nat.zero_add, Nat.reduceAdd, Sl.v] at h)
      | (refine t_stB h 9 rfl (by simp [setL]) (by simp [Value.oneCell']) fun w h => ?_; try dsimp only [List.set, setL, List.eraseIdx, List.cons_append, List.nil_append, List.append_nil, Nat.zero_add, Nat.reduceAdd, Sl.v] at h)
      | refine t_newB h (by simp [Value.oneCell']) fun w b h hb => ?_
      | refine t_nil ?_
      | refine t_true rfl ?_
      | refine t_false rfl ?_
      | refine t_yes rfl ?_
      | refine t_nyes rfl ?_
      | refine t_no (by decide) ?_
      | refine t_nno (by decide) ?_
      | refine t_need (by decide) ?_)
    try dsimp only [List.set, setL, List.eraseIdx, List.cons_append, List.nil_append, List.append_nil, Nat.zero_add, Nat.reduceAdd, Sl.v] at h
    have R4 : Con Tryz.prog NoRo 12 #[.pointer (some ⟨mb, 0, none⟩), .int .i64 q.l.drv, .string (mkB (M.evB e))] .I [memK mb l] (M.write l q.l.drv (M.evB e)).2 [memK mb (M.writeM l q.l.drv (M.evB e))] := fun w0 W w B _ h => R4_Write_spec' h q.l.drv (M.evB e) (by omega) (by rw [evB_length]; decide)
    first | refine t_fn (R4) h (by repeat (first | exact Sub.nil _ | apply Sub.c0 | apply Sub.c1 | apply Sub.c2 | apply Sub.c3 | apply Sub.c4 | apply Sub.c5 | apply Sub.c6 | apply Sub.c7 | apply Sub.c8 | apply Sub.c9 | apply Sub.c10 | apply Sub.c11 | exact Sub.refl _)) noRo fun w h => ?_ | refine t_fnn (R4) h (by repeat (first | exact Sub.nil _ | apply Sub.c0 | apply Sub.c1 | apply Sub.c2 | apply Sub.c3 | apply Sub.c4 | apply Sub.c5 | apply Sub.c6 | apply Sub.c7 | apply Sub.c8 | apply Sub.c9 | apply Sub.c10 | apply Sub.c11 | exact Sub.refl _)) noRo fun w h => ?_
    try dsimp only [List.set, setL, List.eraseIdx, List.cons_append, List.nil_append, List.append_nil, Nat.zero_add, Nat.reduceAdd, Sl.v] at h
    exact t_ret ⟨rfl, (kq_shut (M.kOf q since) h (by repeat (first | exact Sub.nil _ | apply Sub.c0 | apply Sub.c1 | apply Sub.c2 | apply Sub.c3 | apply Sub.c4 | apply Sub.c5 | apply Sub.c6 | apply Sub.c7 | apply Sub.c8 | apply Sub.c9 | apply Sub.c10 | apply Sub.c11 | exact Sub.refl _))).weak (by repeat (first | exact Weak.refl _ | apply Weak.c0 | apply Weak.c1 | apply Weak.c2 | apply Weak.c3 | apply Weak.c4 | apply Weak.c5 | apply Weak.c6 | apply Weak.c7 | apply Weak.c8 | apply Weak.c9 | apply Weak.c10 | apply Weak.c11 | apply Weak.drop))⟩
  · rw [if_neg hok, if_neg hok, if_neg hok, if_neg hok]
    exact t_nno (by decide) (t_ret ⟨rfl, h.weak (by repeat (first | exact Weak.refl _ | apply Weak.c0 | apply Weak.c1 | apply Weak.c2 | apply Weak.c3 | apply Weak.c4 | apply Weak.c5 | apply Weak.c6 | apply Weak.c7 | apply Weak.c8 | apply Weak.c9 | apply Weak.c10 | apply Weak.c11 | apply Weak.drop))⟩)
end Go.Proofs.YthfcneahnldgnaaGreat
