/- DrvqRefuses: what is refused changes nothing; what is reaped was held. -/
import Derived.Test.YthfcneahnldgnaaOps15
namespace Go.Proofs.Ythfcneahnldgnaa
open Go Vk
set_option linter.unusedSimpArgs false
set_option linter.unusedVariables false
def opsV (l : List M.Op) : List Value := l.flatMap Op.cells
theorem opsV_length (l : List M.Op) : (opsV l).length = l.length * 10 := by
  induction l with
  | nil => rfl
  | cons p l ih => simp only [opsV, List.flatMap_cons, List.length_append, List.length_cons] at *; simp [Op.cells, ih]; omega
theorem opsV_drop (l : List M.Op) (i : Nat) : (opsV l).drop (i * 10) = opsV (l.drop i) := by
  induction l generalizing i with
  | nil => simp [opsV]
  | cons p l ih =>
    cases i with
    | zero => simp
    | succ i => rw [Nat.add_mul, Nat.add_comm, ← List.drop_drop, List.drop_succ_cons, ← ih]; rfl
theorem mayPost_le (N : Nat) (free : Int) (ps : List M.Part) (h : M.mayPost N free (ps.take 70) = 0) : ps.take 70 = ps := by
  have := (mayPost_ok h).2.1
  rw [List.length_take] at this
  exact List.take_of_length_le (by omega)
theorem hasId_keys (m : List (Int × Int)) (id : Int) : M.hasId m id = true ↔ id ∈ M.keysOf m := by
  unfold M.keysOf
  rw [List.mem_mergeSort]
  simp [M.hasId, List.any_eq_true, List.mem_map]
theorem keysOf_length (m : List (Int × Int)) : (M.keysOf m).length = m.length := by unfold M.keysOf; simp
theorem filter_id_length {m : List (Int × Int)} {id n : Int} (hn : (m.map (·.1)).Nodup) (hm : (id, n) ∈ m) : (m.filter fun p => p.1 ≠ id).length = m.length - 1 := by
  induction m with
  | nil => simp at hm
  | cons p l ih =>
    simp only [List.map_cons, List.nodup_cons] at hn
    rcases List.mem_cons.1 hm with rfl | hm
    · simp only [ne_eq, not_true, decide_false, Bool.false_eq_true, not_false_eq_true, List.filter_cons_of_neg, List.length_cons, Nat.add_sub_cancel]
      rw [List.filter_eq_self.2]
      intro x hx
      simp only [decide_not, Bool.not_eq_true', decide_eq_false_iff_not]
      intro he
      exact hn.1 (List.mem_map.2 ⟨x, hx, he⟩)
    · have hne : p.1 ≠ id := fun he => hn.1 (List.mem_map.2 ⟨(id, n), hm, he.symm⟩)
      have hpos : 0 < l.length := List.length_pos_of_mem hm
      rw [List.filter_cons_of_pos (by simpa using hne), List.length_cons, ih hn.2 hm, List.length_cons]
      omega
theorem take_snoc_gen (l : List Int) (k : Nat) (h : k < l.length) : l.take (k + 1) = l.take k ++ [l.getD k 0] := by
  rw [List.take_succ_eq_append_getElem h]; simp [List.getD, h]
theorem postQ_free (l : List UInt8) (q : M.DQ) (ps : List M.Part) : (M.postQ l q ps).free = q.free - ps.length := rfl
theorem postQ_hlen (l : List UInt8) (q : M.DQ) (ps : List M.Part) : (M.postQ l q ps).held.length = q.held.length + 1 := by simp [M.postQ]
set_option maxHeartbeats 4000000 in
theorem DrvqRefuses_con (bytes : Int) (y : M.Lay) (sc : Sl) (ops : List M.Op) (hy : i64R y.ring ∧ i64R y.size ∧ i64R y.drv ∧ i64R y.dev) (hx : sc.n ≤ 9223372036854775807) :
    Con Try.prog (fun w => Rd w sc 10 (opsV ops) ∧ ∀ o ∈ ops, Op.Good w o) 3 #[.agg #[.int .i64 bytes, .int .i64 y.ring, .int .i64 y.size, .int .i64 y.drv, .int .i64 y.dev, .slice sc.a sc.n sc.c]] .B [] true [] := by
  intro w0 W w B hro h
  refine aqueductlaw15_DrvqRefuses.calls (bytes, y.ring, y.size, y.drv, y.dev, sc, ()) ?_
  unfold aqueductlaw15_DrvqRefuses.T
  have hln : ops.length = sc.n := by have := (hro w h.kept).1.len; rw [opsV_length] at this; omega
  have hL := laidLen_le bytes
  repeat (first
    | refine t_tickS h fun w h => ?_
    | refine t_keepN ?_
    | refine t_ldB h 0 rfl rfl ?_
    | refine t_ldB h 1 rfl rfl ?_
    | refine t_ldB h 2 rfl rfl ?_
    | refine t_ldB h 3 rfl rfl ?_
    | refine t_ldB h 4 rfl rfl ?_
    | refine t_ldB h 5 rfl rfl ?_
    | refine t_ldB h 6 rfl rfl ?_
    | refine t_ldB h 7 rfl rfl ?_
    | refine t_ldB h 8 rfl rfl ?_
    | refine t_ldB h 9 rfl rfl ?_
    | refine t_ldO h 0 rfl rfl rfl ?_
    | refine t_ldO h 1 rfl rfl rfl ?_
    | refine t_ldO h 2 rfl rfl rfl ?_
    | refine t_ldO h 3 rfl rfl rfl ?_
    | refine t_ldO h 4 rfl rfl rfl ?_
    | refine t_ldO h 5 rfl rfl rfl ?_
    | refine t_ldO h 6 rfl rfl rfl ?_
    | refine t_ldO h 7 rfl rfl rfl ?_
    | refine t_ldO h 8 rfl rfl rfl ?_
    | refine t_ldO h 9 rfl rfl rfl ?_
    | refine t_keepB h 0 rfl rfl ?_
    | refine t_keepB h 1 rfl rfl ?_
    | refine t_keepB h 2 rfl rfl ?_
    | refine t_keepB h 3 rfl rfl ?_
    | refine t_keepB h 4 rfl rfl ?_
    | refine t_keepB h 5 rfl rfl ?_
    | refine t_keepB h 6 rfl rfl ?_
    | refine t_keepB h 7 rfl rfl ?_
    | refine t_keepB h 8 rfl rfl ?_
    | refine t_keepB h 9 rfl rfl ?_
    | (refine t_stB h 0 rfl (by simp [setL]) (by simp [Value.oneCell']) fun w h => ?_; try dsimp only [List.set, setL, List.eraseIdx, List.cons_append, List.nil_append, List.append_nil, Nat.zero_add, Nat.reduceAdd, Sl.v] at h)
    | (refine t_stB h 1 rfl (by simp [setL]) (by simp [Value.oneCell']) fun w h => ?_; try dsimp only [List.set, setL, List.eraseIdx, List.cons_append, List.nil_append, List.append_nil, Nat.zero_add, Nat.reduceAdd, Sl.v] at h)
    | (refine t_stB h 2 rfl (by simp [setL]) (by simp [Value.oneCell']) fun w h => ?_; try dsimp only [List.set, setL, List.eraseIdx, List.cons_append, List.nil_append, List.append_nil, Nat.zero_add, Nat.reduceAdd, Sl.v] at h)
    | (refine t_stB h 3 rfl (by simp [setL]) (by simp [Value.oneCell']) fun w h => ?_; try dsimp only [List.set, setL, List.eraseIdx, List.cons_append, List.nil_append, List.append_nil, Nat.zero_add, Nat.reduceAdd, Sl.v] at h)
    | (refine t_stB h 4 rfl (by simp [setL]) (by simp [Value.oneCell']) fun w h => ?_; try dsimp only [List.set, setL, List.eraseIdx, List.cons_append, List.nil_append, List.append_nil, Nat.zero_add, Nat.reduceAdd, Sl.v] at h)
    | (refine t_stB h 5 rfl (by simp [setL]) (by simp [Value.oneCell']) fun w h => ?_; try dsimp only [List.set, setL, List.eraseIdx, List.cons_append, List.nil_append, List.append_nil, Nat.zero_add, Nat.reduceAdd, Sl.v] at h)
    | (refine t_stB h 6 rfl (by simp [setL]) (by simp [Value.oneCell']) fun w h => ?_; try dsimp only [List.set, setL, List.eraseIdx, List.cons_append, List.nil_append, List.append_nil, Nat.zero_add, Nat.reduceAdd, Sl.v] at h)
    | (refine t_stB h 7 rfl (by simp [setL]) (by simp [Value.oneCell']) fun w h => ?_; try dsimp only [List.set, setL, List.eraseIdx, List.cons_append, List.nil_append, List.append_nil, Nat.zero_add, Nat.reduceAdd, Sl.v] at h)
    | (refine t_stB h 8 rfl (by simp [setL]) (by simp [Value.oneCell']) fun w h => ?_; try dsimp only [List.set, setL, List.eraseIdx, List.cons_append, List.nil_append, List.append_nil, Nat.zero_add, Nat.reduceAdd, Sl.v] at h)
    | (refine t_stB h 9 rfl (by simp [setL]) (by simp [Value.oneCell']) fun w h => ?_; try dsimp only [List.set, setL, List.eraseIdx, List.cons_append, List.nil_append, List.append_nil, Nat.zero_add, Nat.reduceAdd, Sl.v] at h)
    | refine t_newB h (by simp [Value.oneCell']) fun w b h hb => ?_
    | refine t_nil ?_
    | refine t_true rfl ?_
    | refine t_false rfl ?_
    | refine t_yes rfl ?_
    | refine t_nyes rfl ?_
    | refine t_no (by decide) ?_
    | refine t_nno (by decide) ?_
    | refine t_need (by decide) ?_)
  try dsimp only [List.set, setL, List.eraseIdx, List.cons_append, List.nil_append, List.append_nil, Nat.zero_add, Nat.reduceAdd, Sl.v] at h
  obtain ⟨wb, hwb⟩ : ∃ x, x = b := ⟨_, rfl⟩
  subst hwb
  by_cases hc : M.layCheck (M.laid0 bytes).length y = 0
  · first | refine t_fnE (laid_ok bytes y sc hy.1 hy.2.1 hy.2.2.1 hy.2.2.2 hc) h (by repeat (first | exact Sub.nil _ | apply Sub.c0 | apply Sub.c1 | apply Sub.c2 | apply Sub.c3 | apply Sub.c4 | apply Sub.c5 | apply Sub.c6 | apply Sub.c7 | apply Sub.c8 | apply Sub.c9 | apply Sub.c10 | apply Sub.c11 | exact Sub.refl _)) noRo ?_ | refine t_fnnE (laid_ok bytes y sc hy.1 hy.2.1 hy.2.2.1 hy.2.2.2 hc) h (by repeat (first | exact Sub.nil _ | apply Sub.c0 | apply Sub.c1 | apply Sub.c2 | apply Sub.c3 | apply Sub.c4 | apply Sub.c5 | apply Sub.c6 | apply Sub.c7 | apply Sub.c8 | apply Sub.c9 | apply Sub.c10 | apply Sub.c11 | exact Sub.refl _)) noRo ?_
    rintro _ _ ⟨mb, kb, qb, xb, rfl, rfl⟩ w h
    try dsimp only [List.set, setL, List.eraseIdx, List.cons_append, List.nil_append, List.append_nil, Nat.zero_add, Nat.reduceAdd, Sl.v] at h
    repeat (first
      | refine t_tickS h fun w h => ?_
      | refine t_keepN ?_
      | refine t_ldB h 0 rfl rfl ?_
      | refine t_ldB h 1 rfl rfl ?_
      | refine t_ldB h 2 rfl rfl ?_
      | refine t_ldB h 3 rfl rfl ?_
      | refine t_ldB h 4 rfl rfl ?_
      | refine t_ldB h 5 rfl rfl ?_
      | refine t_ldB h 6 rfl rfl ?_
      | refine t_ldB h 7 rfl rfl ?_
      | refine t_ldB h 8 rfl rfl ?_
      | refine t_ldB h 9 rfl rfl ?_
      | refine t_ldO h 0 rfl rfl rfl ?_
      | refine t_ldO h 1 rfl rfl rfl ?_
      | refine t_ldO h 2 rfl rfl rfl ?_
      | refine t_ldO h 3 rfl rfl rfl ?_
      | refine t_ldO h 4 rfl rfl rfl ?_
      | refine t_ldO h 5 rfl rfl rfl ?_
      | refine t_ldO h 6 rfl rfl rfl ?_
      | refine t_ldO h 7 rfl rfl rfl ?_
      | refine t_ldO h 8 rfl rfl rfl ?_
      | refine t_ldO h 9 rfl rfl rfl ?_
      | refine t_keepB h 0 rfl rfl ?_
      | refine t_keepB h 1 rfl rfl ?_
      | refine t_keepB h 2 rfl rfl ?_
      | refine t_keepB h 3 rfl rfl ?_
      | refine t_keepB h 4 rfl rfl ?_
      | refine t_keepB h 5 rfl rfl ?_
      | refine t_keepB h 6 rfl rfl ?_
      | refine t_keepB h 7 rfl rfl ?_
      | refine t_keepB h 8 rfl rfl ?_
      | refine t_keepB h 9 rfl rfl ?_
      | (refine t_stB h 0 rfl (by simp [setL]) (by simp [Value.oneCell']) fun w h => ?_; try dsimp only [List.set, setL, List.eraseIdx, List.cons_append, List.nil_append, List.append_nil, Nat.zero_add, Nat.reduceAdd, Sl.v] at h)
      | (refine t_stB h 1 rfl (by simp [setL]) (by simp [Value.oneCell']) fun w h => ?_; try dsimp only [List.set, setL, List.eraseIdx, List.cons_append, List.nil_append, List.append_nil, Nat.zero_add, Nat.reduceAdd, Sl.v] at h)
      | (refine t_stB h 2 rfl (by simp [setL]) (by simp [Value.oneCell']) fun w h => ?_; try dsimp only [List.set, setL, List.eraseIdx, List.cons_append, List.nil_append, List.append_nil, Nat.zero_add, Nat.reduceAdd, Sl.v] at h)
      | (refine t_stB h 3 rfl (by simp [setL]) (by simp [Value.oneCell']) fun w h => ?_; try dsimp only [List.set, setL, List.eraseIdx, List.cons_append, List.nil_append, List.append_nil, Nat.zero_add, Nat.reduceAdd, Sl.v] at h)
      | (refine t_stB h 4 rfl (by simp [setL]) (by simp [Value.oneCell']) fun w h => ?_; try dsimp only [List.set, setL, List.eraseIdx, List.cons_append, List.nil_append, List.append_nil, Nat.zero_add, Nat.reduceAdd, Sl.v] at h)
      | (refine t_stB h 5 rfl (by simp [setL]) (by simp [Value.oneCell']) fun w h => ?_; try dsimp only [List.set, setL, List.eraseIdx, List.cons_append, List.nil_append, List.append_nil, Nat.zero_add, Nat.reduceAdd, Sl.v] at h)
      | (refine t_stB h 6 rfl (by simp [setL]) (by simp [Value.oneCell']) fun w h => ?_; try dsimp only [List.set, setL, List.eraseIdx, List.cons_append, List.nil_append, List.append_nil, Nat.zero_add, Nat.reduceAdd, Sl.v] at h)
      | (refine t_stB h 7 rfl (by simp [setL]) (by simp [Value.oneCell']) fun w h => ?_; try dsimp only [List.set, setL, List.eraseIdx, List.cons_append, List.nil_append, List.append_nil, Nat.zero_add, Nat.reduceAdd, Sl.v] at h)
      | (refine t_stB h 8 rfl (by simp [setL]) (by simp [Value.oneCell']) fun w h => ?_; try dsimp only [List.set, setL, List.eraseIdx, List.cons_append, List.nil_append, List.append_nil, Nat.zero_add, Nat.reduceAdd, Sl.v] at h)
      | (refine t_stB h 9 rfl (by simp [setL]) (by simp [Value.oneCell']) fun w h => ?_; try dsimp only [List.set, setL, List.eraseIdx, List.cons_append, List.nil_append, List.append_nil, Nat.zero_add, Nat.reduceAdd, Sl.v] at h)
      | refine t_newB h (by simp [Value.oneCell']) fun w b h hb => ?_
      | refine t_nil ?_
      | refine t_true rfl ?_
      | refine t_false rfl ?_
      | refine t_yes rfl ?_
      | refine t_nyes rfl ?_
      | refine t_no (by decide) ?_
      | refine t_nno (by decide) ?_
      | refine t_need (by decide) ?_)
    try dsimp only [List.set, setL, List.eraseIdx, List.cons_append, List.nil_append, List.append_nil, Nat.zero_add, Nat.reduceAdd, Sl.v] at h
    have hinv0 : (M.newQ y).Inv := newQ_inv (by rw [laid0_length]; omega) hc
    have hlen0 : (M.newMem (M.laid0 bytes) y).length ≤ 2048 := by rw [newMem_length, laid0_length]; omega
    refine t_loop (fun m st w' => ∃ (i : Nat) (q : M.DQ) (l : List UInt8), i ≤ sc.n ∧ m = sc.n - i ∧ st = ((i : Int), ()) ∧ q.Inv ∧ q.l = y ∧ l.length ≤ 2048 ∧
      St w0 W w' (dqR qb mb q :: memR mb l :: blkR wb [.int .i64 bytes, .int .i64 y.ring, .int .i64 y.size, .int .i64 y.drv, .int .i64 y.dev, .slice sc.a sc.n sc.c] 26 :: B)) sc.n ⟨0, M.newQ y, M.newMem (M.laid0 bytes) y, by omega, rfl, rfl, hinv0, rfl, hlen0, h.weak (by repeat (first | exact Weak.refl _ | apply Weak.c0 | apply Weak.c1 | apply Weak.c2 | apply Weak.c3 | apply Weak.c4 | apply Weak.c5 | apply Weak.c6 | apply Weak.c7 | apply Weak.c8 | apply Weak.c9 | apply Weak.c10 | apply Weak.c11 | apply Weak.drop))⟩ ?_
    clear h hinv0 hlen0
    rintro m st w ⟨i, q, l, hi, rfl, rfl, hq, hy2, hl, h⟩ Ks hJ _
    dsimp only
    refine t_true rfl ?_
    repeat (first
      | refine t_tickS h fun w h => ?_
      | refine t_keepN ?_
      | refine t_ldB h 0 rfl rfl ?_
      | refine t_ldB h 1 rfl rfl ?_
      | refine t_ldB h 2 rfl rfl ?_
      | refine t_ldB h 3 rfl rfl ?_
      | refine t_ldB h 4 rfl rfl ?_
      | refine t_ldB h 5 rfl rfl ?_
      | refine t_ldB h 6 rfl rfl ?_
      | refine t_ldB h 7 rfl rfl ?_
      | refine t_ldB h 8 rfl rfl ?_
      | refine t_ldB h 9 rfl rfl ?_
      | refine t_ldO h 0 rfl rfl rfl ?_
      | refine t_ldO h 1 rfl rfl rfl ?_
      | refine t_ldO h 2 rfl rfl rfl ?_
      | refine t_ldO h 3 rfl rfl rfl ?_
      | refine t_ldO h 4 rfl rfl rfl ?_
      | refine t_ldO h 5 rfl rfl rfl ?_
      | refine t_ldO h 6 rfl rfl rfl ?_
      | refine t_ldO h 7 rfl rfl rfl ?_
      | refine t_ldO h 8 rfl rfl rfl ?_
      | refine t_ldO h 9 rfl rfl rfl ?_
      | refine t_keepB h 0 rfl rfl ?_
      | refine t_keepB h 1 rfl rfl ?_
      | refine t_keepB h 2 rfl rfl ?_
      | refine t_keepB h 3 rfl rfl ?_
      | refine t_keepB h 4 rfl rfl ?_
      | refine t_keepB h 5 rfl rfl ?_
      | refine t_keepB h 6 rfl rfl ?_
      | refine t_keepB h 7 rfl rfl ?_
      | refine t_keepB h 8 rfl rfl ?_
      | refine t_keepB h 9 rfl rfl ?_
      | (refine t_stB h 0 rfl (by simp [setL]) (by simp [Value.oneCell']) fun w h => ?_; try dsimp only [List.set, setL, List.eraseIdx, List.cons_append, List.nil_append, List.append_nil, Nat.zero_add, Nat.reduceAdd, Sl.v] at h)
      | (refine t_stB h 1 rfl (by simp [setL]) (by simp [Value.oneCell']) fun w h => ?_; try dsimp only [List.set, setL, List.eraseIdx, List.cons_append, List.nil_append, List.append_nil, Nat.zero_add, Nat.reduceAdd, Sl.v] at h)
      | (refine t_stB h 2 rfl (by simp [setL]) (by simp [Value.oneCell']) fun w h => ?_; try dsimp only [List.set, setL, List.eraseIdx, List.cons_append, List.nil_append, List.append_nil, Nat.zero_add, Nat.reduceAdd, Sl.v] at h)
      | (refine t_stB h 3 rfl (by simp [setL]) (by simp [Value.oneCell']) fun w h => ?_; try dsimp only [List.set, setL, List.eraseIdx, List.cons_append, List.nil_append, List.append_nil, Nat.zero_add, Nat.reduceAdd, Sl.v] at h)
      | (refine t_stB h 4 rfl (by simp [setL]) (by simp [Value.oneCell']) fun w h => ?_; try dsimp only [List.set, setL, List.eraseIdx, List.cons_append, List.nil_append, List.append_nil, Nat.zero_add, Nat.reduceAdd, Sl.v] at h)
      | (refine t_stB h 5 rfl (by simp [setL]) (by simp [Value.oneCell']) fun w h => ?_; try dsimp only [List.set, setL, List.eraseIdx, List.cons_append, List.nil_append, List.append_nil, Nat.zero_add, Nat.reduceAdd, Sl.v] at h)
      | (refine t_stB h 6 rfl (by simp [setL]) (by simp [Value.oneCell']) fun w h => ?_; try dsimp only [List.set, setL, List.eraseIdx, List.cons_append, List.nil_append, List.append_nil, Nat.zero_add, Nat.reduceAdd, Sl.v] at h)
      | (refine t_stB h 7 rfl (by simp [setL]) (by simp [Value.oneCell']) fun w h => ?_; try dsimp only [List.set, setL, List.eraseIdx, List.cons_append, List.nil_append, List.append_nil, Nat.zero_add, Nat.reduceAdd, Sl.v] at h)
      | (refine t_stB h 8 rfl (by simp [setL]) (by simp [Value.oneCell']) fun w h => ?_; try dsimp only [List.set, setL, List.eraseIdx, List.cons_append, List.nil_append, List.append_nil, Nat.zero_add, Nat.reduceAdd, Sl.v] at h)
      | (refine t_stB h 9 rfl (by simp [setL]) (by simp [Value.oneCell']) fun w h => ?_; try dsimp only [List.set, setL, List.eraseIdx, List.cons_append, List.nil_append, List.append_nil, Nat.zero_add, Nat.reduceAdd, Sl.v] at h)
      | refine t_newB h (by simp [Value.oneCell']) fun w b h hb => ?_
      | refine t_nil ?_
      | refine t_true rfl ?_
      | refine t_false rfl ?_
      | refine t_yes rfl ?_
      | refine t_nyes rfl ?_
      | refine t_no (by decide) ?_
      | refine t_nno (by decide) ?_
      | refine t_need (by decide) ?_)
    try dsimp only [List.set, setL, List.eraseIdx, List.cons_append, List.nil_append, List.append_nil, Nat.zero_add, Nat.reduceAdd, Sl.v] at h
    refine t_if (fun c1 => ?_) (fun c1 => ?_)
    · refine t_if (fun c2 => ?_) (fun c2 => ?_)
      · repeat (first
          | refine t_tickS h fun w h => ?_
          | refine t_keepN ?_
          | refine t_ldB h 0 rfl rfl ?_
          | refine t_ldB h 1 rfl rfl ?_
          | refine t_ldB h 2 rfl rfl ?_
          | refine t_ldB h 3 rfl rfl ?_
          | refine t_ldB h 4 rfl rfl ?_
          | refine t_ldB h 5 rfl rfl ?_
          | refine t_ldB h 6 rfl rfl ?_
          | refine t_ldB h 7 rfl rfl ?_
          | refine t_ldB h 8 rfl rfl ?_
          | refine t_ldB h 9 rfl rfl ?_
          | refine t_ldO h 0 rfl rfl rfl ?_
          | refine t_ldO h 1 rfl rfl rfl ?_
          | refine t_ldO h 2 rfl rfl rfl ?_
          | refine t_ldO h 3 rfl rfl rfl ?_
          | refine t_ldO h 4 rfl rfl rfl ?_
          | refine t_ldO h 5 rfl rfl rfl ?_
          | refine t_ldO h 6 rfl rfl rfl ?_
          | refine t_ldO h 7 rfl rfl rfl ?_
          | refine t_ldO h 8 rfl rfl rfl ?_
          | refine t_ldO h 9 rfl rfl rfl ?_
          | refine t_keepB h 0 rfl rfl ?_
          | refine t_keepB h 1 rfl rfl ?_
          | refine t_keepB h 2 rfl rfl ?_
          | refine t_keepB h 3 rfl rfl ?_
          | refine t_keepB h 4 rfl rfl ?_
          | refine t_keepB h 5 rfl rfl ?_
          | refine t_keepB h 6 rfl rfl ?_
          | refine t_keepB h 7 rfl rfl ?_
          | refine t_keepB h 8 rfl rfl ?_
          | refine t_keepB h 9 rfl rfl ?_
          | (refine t_stB h 0 rfl (by simp [setL]) (by simp [Value.oneCell']) fun w h => ?_; try dsimp only [List.set, setL, List.eraseIdx, List.cons_append, List.nil_append, List.append_nil, Nat.zero_add, Nat.reduceAdd, Sl.v] at h)
          | (refine t_stB h 1 rfl (by simp [setL]) (by simp [Value.oneCell']) fun w h => ?_; try dsimp only [List.set, setL, List.eraseIdx, List.cons_append, List.nil_append, List.append_nil, Nat.zero_add, Nat.reduceAdd, Sl.v] at h)
          | (refine t_stB h 2 rfl (by simp [setL]) (by simp [Value.oneCell']) fun w h => ?_; try dsimp only [List.set, setL, List.eraseIdx, List.cons_append, List.nil_append, List.append_nil, Nat.zero_add, Nat.reduceAdd, Sl.v] at h)
          | (refine t_stB h 3 rfl (by simp [setL]) (by simp [Value.oneCell']) fun w h => ?_; try dsimp only [List.set, setL, List.eraseIdx, List.cons_append, List.nil_append, List.append_nil, Nat.zero_add, Nat.reduceAdd, Sl.v] at h)
          | (refine t_stB h 4 rfl (by simp [setL]) (by simp [Value.oneCell']) fun w h => ?_; try dsimp only [List.set, setL, List.eraseIdx, List.cons_append, List.nil_append, List.append_nil, Nat.zero_add, Nat.reduceAdd, Sl.v] at h)
          | (refine t_stB h 5 rfl (by simp [setL]) (by simp [Value.oneCell']) fun w h => ?_; try dsimp only [List.set, setL, List.eraseIdx, List.cons_append, List.nil_append, List.append_nil, Nat.zero_add, Nat.reduceAdd, Sl.v] at h)
          | (refine t_stB h 6 rfl (by simp [setL]) (by simp [Value.oneCell']) fun w h => ?_; try dsimp only [List.set, setL, List.eraseIdx, List.cons_append, List.nil_append, List.append_nil, Nat.zero_add, Nat.reduceAdd, Sl.v] at h)
          | (refine t_stB h 7 rfl (by simp [setL]) (by simp [Value.oneCell']) fun w h => ?_; try dsimp only [List.set, setL, List.eraseIdx, List.cons_append, List.nil_append, List.append_nil, Nat.zero_add, Nat.reduceAdd, Sl.v] at h)
          | (refine t_stB h 8 rfl (by simp [setL]) (by simp [Value.oneCell']) fun w h => ?_; try dsimp only [List.set, setL, List.eraseIdx, List.cons_append, List.nil_append, List.append_nil, Nat.zero_add, Nat.reduceAdd, Sl.v] at h)
          | (refine t_stB h 9 rfl (by simp [setL]) (by simp [Value.oneCell']) fun w h => ?_; try dsimp only [List.set, setL, List.eraseIdx, List.cons_append, List.nil_append, List.append_nil, Nat.zero_add, Nat.reduceAdd, Sl.v] at h)
          | refine t_newB h (by simp [Value.oneCell']) fun w b h hb => ?_
          | refine t_nil ?_
          | refine t_true rfl ?_
          | refine t_false rfl ?_
          | refine t_yes rfl ?_
          | refine t_nyes rfl ?_
          | refine t_no (by decide) ?_
          | refine t_nno (by decide) ?_
          | refine t_need (by decide) ?_)
        try dsimp only [List.set, setL, List.eraseIdx, List.cons_append, List.nil_append, List.append_nil, Nat.zero_add, Nat.reduceAdd, Sl.v] at h
        dsimp only at c1
        have hlt : i < ops.length := by omega
        refine t_need (by dsimp only; omega) (t_nilRd (s := sc) (hro w h.kept).1 (by omega) fun a ha => ?_)
        rw [Int.toNat_natCast]
        have hd : (opsV ops).drop (i * 10) = Op.cells ops[i] ++ opsV (ops.drop (i + 1)) := by rw [opsV_drop, List.drop_eq_getElem_cons hlt]; rfl
        have hg : ∀ w', Keep W w0 w' → Op.Good w' ops[i] := fun w' hk => (hro w' hk).2 _ (List.getElem_mem hlt)
        generalize ops[i] = o at *
        refine t_ldRd (k := .agg [.I, .I, .I, .I, .slc, .str, .I, .bool, .I, .bool]) (x := (o.kind, o.at_, o.id, o.n, o.parts, mkB o.s, o.off, o.ew, o.fl, o.wrap, ())) (hro w h.kept).1 ha (by rw [hd]; rfl) ?_
        have hok := hq.ok
        have hk64 := Inv_i64 hq
        have hklen : q.held.length ≤ 1048576 := by have := hok.len; omega
        repeat (first
          | refine t_tickS h fun w h => ?_
          | refine t_keepN ?_
          | refine t_ldB h 0 rfl rfl ?_
          | refine t_ldB h 1 rfl rfl ?_
          | refine t_ldB h 2 rfl rfl ?_
          | refine t_ldB h 3 rfl rfl ?_
          | refine t_ldB h 4 rfl rfl ?_
          | refine t_ldB h 5 rfl rfl ?_
          | refine t_ldB h 6 rfl rfl ?_
          | refine t_ldB h 7 rfl rfl ?_
          | refine t_ldB h 8 rfl rfl ?_
          | refine t_ldB h 9 rfl rfl ?_
          | refine t_ldO h 0 rfl rfl rfl ?_
          | refine t_ldO h 1 rfl rfl rfl ?_
          | refine t_ldO h 2 rfl rfl rfl ?_
          | refine t_ldO h 3 rfl rfl rfl ?_
          | refine t_ldO h 4 rfl rfl rfl ?_
          | refine t_ldO h 5 rfl rfl rfl ?_
          | refine t_ldO h 6 rfl rfl rfl ?_
          | refine t_ldO h 7 rfl rfl rfl ?_
          | refine t_ldO h 8 rfl rfl rfl ?_
          | refine t_ldO h 9 rfl rfl rfl ?_
          | refine t_keepB h 0 rfl rfl ?_
          | refine t_keepB h 1 rfl rfl ?_
          | refine t_keepB h 2 rfl rfl ?_
          | refine t_keepB h 3 rfl rfl ?_
          | refine t_keepB h 4 rfl rfl ?_
          | refine t_keepB h 5 rfl rfl ?_
          | refine t_keepB h 6 rfl rfl ?_
          | refine t_keepB h 7 rfl rfl ?_
          | refine t_keepB h 8 rfl rfl ?_
          | refine t_keepB h 9 rfl rfl ?_
          | (refine t_stB h 0 rfl (by simp [setL]) (by simp [Value.oneCell']) fun w h => ?_; try dsimp only [List.set, setL, List.eraseIdx, List.cons_append, List.nil_append, List.append_nil, Nat.zero_add, Nat.reduceAdd, Sl.v] at h)
          | (refine t_stB h 1 rfl (by simp [setL]) (by simp [Value.oneCell']) fun w h => ?_; try dsimp only [List.set, setL, List.eraseIdx, List.cons_append, List.nil_append, List.append_nil, Nat.zero_add, Nat.reduceAdd, Sl.v] at h)
          | (refine t_stB h 2 rfl (by simp [setL]) (by simp [Value.oneCell']) fun w h => ?_; try dsimp only [List.set, setL, List.eraseIdx, List.cons_append, List.nil_append, List.append_nil, Nat.zero_add, Nat.reduceAdd, Sl.v] at h)
          | (refine t_stB h 3 rfl (by simp [setL]) (by simp [Value.oneCell']) fun w h => ?_; try dsimp only [List.set, setL, List.eraseIdx, List.cons_append, List.nil_append, List.append_nil, Nat.zero_add, Nat.reduceAdd, Sl.v] at h)
          | (refine t_stB h 4 rfl (by simp [setL]) (by simp [Value.oneCell']) fun w h => ?_; try dsimp only [List.set, setL, List.eraseIdx, List.cons_append, List.nil_append, List.append_nil, Nat.zero_add, Nat.reduceAdd, Sl.v] at h)
          | (refine t_stB h 5 rfl (by simp [setL]) (by simp [Value.oneCell']) fun w h => ?_; try dsimp only [List.set, setL, List.eraseIdx, List.cons_append, List.nil_append, List.append_nil, Nat.zero_add, Nat.reduceAdd, Sl.v] at h)
          | (refine t_stB h 6 rfl (by simp [setL]) (by simp [Value.oneCell']) fun w h => ?_; try dsimp only [List.set, setL, List.eraseIdx, List.cons_append, List.nil_append, List.append_nil, Nat.zero_add, Nat.reduceAdd, Sl.v] at h)
          | (refine t_stB h 7 rfl (by simp [setL]) (by simp [Value.oneCell']) fun w h => ?_; try dsimp only [List.set, setL, List.eraseIdx, List.cons_append, List.nil_append, List.append_nil, Nat.zero_add, Nat.reduceAdd, Sl.v] at h)
          | (refine t_stB h 8 rfl (by simp [setL]) (by simp [Value.oneCell']) fun w h => ?_; try dsimp only [List.set, setL, List.eraseIdx, List.cons_append, List.nil_append, List.append_nil, Nat.zero_add, Nat.reduceAdd, Sl.v] at h)
          | (refine t_stB h 9 rfl (by simp [setL]) (by simp [Value.oneCell']) fun w h => ?_; try dsimp only [List.set, setL, List.eraseIdx, List.cons_append, List.nil_append, List.append_nil, Nat.zero_add, Nat.reduceAdd, Sl.v] at h)
          | refine t_newB h (by simp [Value.oneCell']) fun w b h hb => ?_
          | refine t_nil ?_
          | refine t_true rfl ?_
          | refine t_false rfl ?_
          | refine t_yes rfl ?_
          | refine t_nyes rfl ?_
          | refine t_no (by decide) ?_
          | refine t_nno (by decide) ?_
          | refine t_need (by decide) ?_)
        try dsimp only [List.set, setL, List.eraseIdx, List.cons_append, List.nil_append, List.append_nil, Nat.zero_add, Nat.reduceAdd, Sl.v] at h
        first | refine t_fn (gmem_Image_fn) h (by repeat (first | exact Sub.nil _ | apply Sub.c0 | apply Sub.c1 | apply Sub.c2 | apply Sub.c3 | apply Sub.c4 | apply Sub.c5 | apply Sub.c6 | apply Sub.c7 | apply Sub.c8 | apply Sub.c9 | apply Sub.c10 | apply Sub.c11 | exact Sub.refl _)) noRo fun w h => ?_ | refine t_fnn (gmem_Image_fn) h (by repeat (first | exact Sub.nil _ | apply Sub.c0 | apply Sub.c1 | apply Sub.c2 | apply Sub.c3 | apply Sub.c4 | apply Sub.c5 | apply Sub.c6 | apply Sub.c7 | apply Sub.c8 | apply Sub.c9 | apply Sub.c10 | apply Sub.c11 | exact Sub.refl _)) noRo fun w h => ?_
        try dsimp only [List.set, setL, List.eraseIdx, List.cons_append, List.nil_append, List.append_nil, Nat.zero_add, Nat.reduceAdd, Sl.v] at h
        first | refine t_fn (drvq_Free_fn) h (by repeat (first | exact Sub.nil _ | apply Sub.c0 | apply Sub.c1 | apply Sub.c2 | apply Sub.c3 | apply Sub.c4 | apply Sub.c5 | apply Sub.c6 | apply Sub.c7 | apply Sub.c8 | apply Sub.c9 | apply Sub.c10 | apply Sub.c11 | exact Sub.refl _)) noRo fun w h => ?_ | refine t_fnn (drvq_Free_fn) h (by repeat (first | exact Sub.nil _ | apply Sub.c0 | apply Sub.c1 | apply Sub.c2 | apply Sub.c3 | apply Sub.c4 | apply Sub.c5 | apply Sub.c6 | apply Sub.c7 | apply Sub.c8 | apply Sub.c9 | apply Sub.c10 | apply Sub.c11 | exact Sub.refl _)) noRo fun w h => ?_
        try dsimp only [List.set, setL, List.eraseIdx, List.cons_append, List.nil_append, List.append_nil, Nat.zero_add, Nat.reduceAdd, Sl.v] at h
        first | refine t_fnE (drvq_Held_fn hk64 hklen) h (by repeat (first | exact Sub.nil _ | apply Sub.c0 | apply Sub.c1 | apply Sub.c2 | apply Sub.c3 | apply Sub.c4 | apply Sub.c5 | apply Sub.c6 | apply Sub.c7 | apply Sub.c8 | apply Sub.c9 | apply Sub.c10 | apply Sub.c11 | exact Sub.refl _)) noRo ?_ | refine t_fnnE (drvq_Held_fn hk64 hklen) h (by repeat (first | exact Sub.nil _ | apply Sub.c0 | apply Sub.c1 | apply Sub.c2 | apply Sub.c3 | apply Sub.c4 | apply Sub.c5 | apply Sub.c6 | apply Sub.c7 | apply Sub.c8 | apply Sub.c9 | apply Sub.c10 | apply Sub.c11 | exact Sub.refl _)) noRo ?_
        rintro l11 post ⟨hn11, rfl⟩ w h
        try dsimp only [List.set, setL, List.eraseIdx, List.cons_append, List.nil_append, List.append_nil, Nat.zero_add, Nat.reduceAdd, Sl.v] at h
        first | refine t_fn (drvq_Back_fn) h (by repeat (first | exact Sub.nil _ | apply Sub.c0 | apply Sub.c1 | apply Sub.c2 | apply Sub.c3 | apply Sub.c4 | apply Sub.c5 | apply Sub.c6 | apply Sub.c7 | apply Sub.c8 | apply Sub.c9 | apply Sub.c10 | apply Sub.c11 | exact Sub.refl _)) noRo fun w h => ?_ | refine t_fnn (drvq_Back_fn) h (by repeat (first | exact Sub.nil _ | apply Sub.c0 | apply Sub.c1 | apply Sub.c2 | apply Sub.c3 | apply Sub.c4 | apply Sub.c5 | apply Sub.c6 | apply Sub.c7 | apply Sub.c8 | apply Sub.c9 | apply Sub.c10 | apply Sub.c11 | exact Sub.refl _)) noRo fun w h => ?_
        try dsimp only [List.set, setL, List.eraseIdx, List.cons_append, List.nil_append, List.append_nil, Nat.zero_add, Nat.reduceAdd, Sl.v] at h
        repeat (first
          | refine t_tickS h fun w h => ?_
          | refine t_keepN ?_
          | refine t_ldB h 0 rfl rfl ?_
          | refine t_ldB h 1 rfl rfl ?_
          | refine t_ldB h 2 rfl rfl ?_
          | refine t_ldB h 3 rfl rfl ?_
          | refine t_ldB h 4 rfl rfl ?_
          | refine t_ldB h 5 rfl rfl ?_
          | refine t_ldB h 6 rfl rfl ?_
          | refine t_ldB h 7 rfl rfl ?_
          | refine t_ldB h 8 rfl rfl ?_
          | refine t_ldB h 9 rfl rfl ?_
          | refine t_ldO h 0 rfl rfl rfl ?_
          | refine t_ldO h 1 rfl rfl rfl ?_
          | refine t_ldO h 2 rfl rfl rfl ?_
          | refine t_ldO h 3 rfl rfl rfl ?_
          | refine t_ldO h 4 rfl rfl rfl ?_
          | refine t_ldO h 5 rfl rfl rfl ?_
          | refine t_ldO h 6 rfl rfl rfl ?_
          | refine t_ldO h 7 rfl rfl rfl ?_
          | refine t_ldO h 8 rfl rfl rfl ?_
          | refine t_ldO h 9 rfl rfl rfl ?_
          | refine t_keepB h 0 rfl rfl ?_
          | refine t_keepB h 1 rfl rfl ?_
          | refine t_keepB h 2 rfl rfl ?_
          | refine t_keepB h 3 rfl rfl ?_
          | refine t_keepB h 4 rfl rfl ?_
          | refine t_keepB h 5 rfl rfl ?_
          | refine t_keepB h 6 rfl rfl ?_
          | refine t_keepB h 7 rfl rfl ?_
          | refine t_keepB h 8 rfl rfl ?_
          | refine t_keepB h 9 rfl rfl ?_
          | (refine t_stB h 0 rfl (by simp [setL]) (by simp [Value.oneCell']) fun w h => ?_; try dsimp only [List.set, setL, List.eraseIdx, List.cons_append, List.nil_append, List.append_nil, Nat.zero_add, Nat.reduceAdd, Sl.v] at h)
          | (refine t_stB h 1 rfl (by simp [setL]) (by simp [Value.oneCell']) fun w h => ?_; try dsimp only [List.set, setL, List.eraseIdx, List.cons_append, List.nil_append, List.append_nil, Nat.zero_add, Nat.reduceAdd, Sl.v] at h)
          | (refine t_stB h 2 rfl (by simp [setL]) (by simp [Value.oneCell']) fun w h => ?_; try dsimp only [List.set, setL, List.eraseIdx, List.cons_append, List.nil_append, List.append_nil, Nat.zero_add, Nat.reduceAdd, Sl.v] at h)
          | (refine t_stB h 3 rfl (by simp [setL]) (by simp [Value.oneCell']) fun w h => ?_; try dsimp only [List.set, setL, List.eraseIdx, List.cons_append, List.nil_append, List.append_nil, Nat.zero_add, Nat.reduceAdd, Sl.v] at h)
          | (refine t_stB h 4 rfl (by simp [setL]) (by simp [Value.oneCell']) fun w h => ?_; try dsimp only [List.set, setL, List.eraseIdx, List.cons_append, List.nil_append, List.append_nil, Nat.zero_add, Nat.reduceAdd, Sl.v] at h)
          | (refine t_stB h 5 rfl (by simp [setL]) (by simp [Value.oneCell']) fun w h => ?_; try dsimp only [List.set, setL, List.eraseIdx, List.cons_append, List.nil_append, List.append_nil, Nat.zero_add, Nat.reduceAdd, Sl.v] at h)
          | (refine t_stB h 6 rfl (by simp [setL]) (by simp [Value.oneCell']) fun w h => ?_; try dsimp only [List.set, setL, List.eraseIdx, List.cons_append, List.nil_append, List.append_nil, Nat.zero_add, Nat.reduceAdd, Sl.v] at h)
          | (refine t_stB h 7 rfl (by simp [setL]) (by simp [Value.oneCell']) fun w h => ?_; try dsimp only [List.set, setL, List.eraseIdx, List.cons_append, List.nil_append, List.append_nil, Nat.zero_add, Nat.reduceAdd, Sl.v] at h)
          | (refine t_stB h 8 rfl (by simp [setL]) (by simp [Value.oneCell']) fun w h => ?_; try dsimp only [List.set, setL, List.eraseIdx, List.cons_append, List.nil_append, List.append_nil, Nat.zero_add, Nat.reduceAdd, Sl.v] at h)
          | (refine t_stB h 9 rfl (by simp [setL]) (by simp [Value.oneCell']) fun w h => ?_; try dsimp only [List.set, setL, List.eraseIdx, List.cons_append, List.nil_append, List.append_nil, Nat.zero_add, Nat.reduceAdd, Sl.v] at h)
          | refine t_newB h (by simp [Value.oneCell']) fun w b h hb => ?_
          | refine t_nil ?_
          | refine t_true rfl ?_
          | refine t_false rfl ?_
          | refine t_yes rfl ?_
          | refine t_nyes rfl ?_
          | refine t_no (by decide) ?_
          | refine t_nno (by decide) ?_
          | refine t_need (by decide) ?_)
        try dsimp only [List.set, setL, List.eraseIdx, List.cons_append, List.nil_append, List.append_nil, Nat.zero_add, Nat.reduceAdd, Sl.v] at h
        have next : ∀ w' (q' : M.DQ) (l' : List UInt8), q'.Inv → q'.l = y → l'.length ≤ 2048 → St w0 W w' (dqR qb mb q' :: memR mb l' :: blkR wb [.int .i64 bytes, .int .i64 y.ring, .int .i64 y.size, .int .i64 y.drv, .int .i64 y.dev, .slice sc.a sc.n sc.c] 26 :: B) → Ks 0 [.int .i64 (IntKind.i64.wrap ((i : Int) + 1))] w' := by
          intro w' q' l' g1 g2 g3 g4
          rw [w64 (n := (i : Int) + 1) (by omega)]
          exact hJ (sc.n - (i + 1)) (((i + 1 : Nat) : Int), ()) w' (by omega) ⟨i + 1, q', l', by omega, rfl, rfl, g1, g2, g3, g4⟩
        have hgw := hg w h.kept
        have hpl : o.ps.length = o.parts.n := by have := hgw.rd.len; rw [partsV_length] at this; omega
        refine t_if (fun k0 => ?_) (fun k0 => ?_)
        · repeat (first
            | refine t_tickS h fun w h => ?_
            | refine t_keepN ?_
            | refine t_ldB h 0 rfl rfl ?_
            | refine t_ldB h 1 rfl rfl ?_
            | refine t_ldB h 2 rfl rfl ?_
            | refine t_ldB h 3 rfl rfl ?_
            | refine t_ldB h 4 rfl rfl ?_
            | refine t_ldB h 5 rfl rfl ?_
            | refine t_ldB h 6 rfl rfl ?_
            | refine t_ldB h 7 rfl rfl ?_
            | refine t_ldB h 8 rfl rfl ?_
            | refine t_ldB h 9 rfl rfl ?_
            | refine t_ldO h 0 rfl rfl rfl ?_
            | refine t_ldO h 1 rfl rfl rfl ?_
            | refine t_ldO h 2 rfl rfl rfl ?_
            | refine t_ldO h 3 rfl rfl rfl ?_
            | refine t_ldO h 4 rfl rfl rfl ?_
            | refine t_ldO h 5 rfl rfl rfl ?_
            | refine t_ldO h 6 rfl rfl rfl ?_
            | refine t_ldO h 7 rfl rfl rfl ?_
            | refine t_ldO h 8 rfl rfl rfl ?_
            | refine t_ldO h 9 rfl rfl rfl ?_
            | refine t_keepB h 0 rfl rfl ?_
            | refine t_keepB h 1 rfl rfl ?_
            | refine t_keepB h 2 rfl rfl ?_
            | refine t_keepB h 3 rfl rfl ?_
            | refine t_keepB h 4 rfl rfl ?_
            | refine t_keepB h 5 rfl rfl ?_
            | refine t_keepB h 6 rfl rfl ?_
            | refine t_keepB h 7 rfl rfl ?_
            | refine t_keepB h 8 rfl rfl ?_
            | refine t_keepB h 9 rfl rfl ?_
            | (refine t_stB h 0 rfl (by simp [setL]) (by simp [Value.oneCell']) fun w h => ?_; try dsimp only [List.set, setL, List.eraseIdx, List.cons_append, List.nil_append, List.append_nil, Nat.zero_add, Nat.reduceAdd, Sl.v] at h)
            | (refine t_stB h 1 rfl (by simp [setL]) (by simp [Value.oneCell']) fun w h => ?_; try dsimp only [List.set, setL, List.eraseIdx, List.cons_append, List.nil_append, List.append_nil, Nat.zero_add, Nat.reduceAdd, Sl.v] at h)
            | (refine t_stB h 2 rfl (by simp [setL]) (by simp [Value.oneCell']) fun w h => ?_; try dsimp only [List.set, setL, List.eraseIdx, List.cons_append, List.nil_append, List.append_nil, Nat.zero_add, Nat.reduceAdd, Sl.v] at h)
            | (refine t_stB h 3 rfl (by simp [setL]) (by simp [Value.oneCell']) fun w h => ?_; try dsimp only [List.set, setL, List.eraseIdx, List.cons_append, List.nil_append, List.append_nil, Nat.zero_add, Nat.reduceAdd, Sl.v] at h)
            | (refine t_stB h 4 rfl (by simp [setL]) (by simp [Value.oneCell']) fun w h => ?_; try dsimp only [List.set, setL, List.eraseIdx, List.cons_append, List.nil_append, List.append_nil, Nat.zero_add, Nat.reduceAdd, Sl.v] at h)
            | (refine t_stB h 5 rfl (by simp [setL]) (by simp [Value.oneCell']) fun w h => ?_; try dsimp only [List.set, setL, List.eraseIdx, List.cons_append, List.nil_append, List.append_nil, Nat.zero_add, Nat.reduceAdd, Sl.v] at h)
            | (refine t_stB h 6 rfl (by simp [setL]) (by simp [Value.oneCell']) fun w h => ?_; try dsimp only [List.set, setL, List.eraseIdx, List.cons_append, List.nil_append, List.append_nil, Nat.zero_add, Nat.reduceAdd, Sl.v] at h)
            | (refine t_stB h 7 rfl (by simp [setL]) (by simp [Value.oneCell']) fun w h => ?_; try dsimp only [List.set, setL, List.eraseIdx, List.cons_append, List.nil_append, List.append_nil, Nat.zero_add, Nat.reduceAdd, Sl.v] at h)
            | (refine t_stB h 8 rfl (by simp [setL]) (by simp [Value.oneCell']) fun w h => ?_; try dsimp only [List.set, setL, List.eraseIdx, List.cons_append, List.nil_append, List.append_nil, Nat.zero_add, Nat.reduceAdd, Sl.v] at h)
            | (refine t_stB h 9 rfl (by simp [setL]) (by simp [Value.oneCell']) fun w h => ?_; try dsimp only [List.set, setL, List.eraseIdx, List.cons_append, List.nil_append, List.append_nil, Nat.zero_add, Nat.reduceAdd, Sl.v] at h)
            | refine t_newB h (by simp [Value.oneCell']) fun w b h hb => ?_
            | refine t_nil ?_
            | refine t_true rfl ?_
            | refine t_false rfl ?_
            | refine t_yes rfl ?_
            | refine t_nyes rfl ?_
            | refine t_no (by decide) ?_
            | refine t_nno (by decide) ?_
            | refine t_need (by decide) ?_)
          try dsimp only [List.set, setL, List.eraseIdx, List.cons_append, List.nil_append, List.append_nil, Nat.zero_add, Nat.reduceAdd, Sl.v] at h
          first | refine t_fn (parts_con o hgw) h (by repeat (first | exact Sub.nil _ | apply Sub.c0 | apply Sub.c1 | apply Sub.c2 | apply Sub.c3 | apply Sub.c4 | apply Sub.c5 | apply Sub.c6 | apply Sub.c7 | apply Sub.c8 | apply Sub.c9 | apply Sub.c10 | apply Sub.c11 | exact Sub.refl _)) noRo fun w h => ?_ | refine t_fnn (parts_con o hgw) h (by repeat (first | exact Sub.nil _ | apply Sub.c0 | apply Sub.c1 | apply Sub.c2 | apply Sub.c3 | apply Sub.c4 | apply Sub.c5 | apply Sub.c6 | apply Sub.c7 | apply Sub.c8 | apply Sub.c9 | apply Sub.c10 | apply Sub.c11 | exact Sub.refl _)) noRo fun w h => ?_
          try dsimp only [List.set, setL, List.eraseIdx, List.cons_append, List.nil_append, List.append_nil, Nat.zero_add, Nat.reduceAdd, Sl.v] at h
          first | refine t_fn (drvq_Post_fn (l := l) (q := q) (x1 := ⟨slB o.parts.a 0 3 o.parts.c, (imn (o.parts.n : Int) 70).toNat, o.parts.c⟩) (o.ps.take 70) hq (by omega) (fun p hp => hgw.ps p (List.mem_of_mem_take hp)) (by unfold imn; dsimp only; split <;> omega)) h (by repeat (first | exact Sub.nil _ | apply Sub.c0 | apply Sub.c1 | apply Sub.c2 | apply Sub.c3 | apply Sub.c4 | apply Sub.c5 | apply Sub.c6 | apply Sub.c7 | apply Sub.c8 | apply Sub.c9 | apply Sub.c10 | apply Sub.c11 | exact Sub.refl _)) (fun w' hk => parts_rd (hg w' hk).rd) fun w h => ?_ | refine t_fnn (drvq_Post_fn (l := l) (q := q) (x1 := ⟨slB o.parts.a 0 3 o.parts.c, (imn (o.parts.n : Int) 70).toNat, o.parts.c⟩) (o.ps.take 70) hq (by omega) (fun p hp => hgw.ps p (List.mem_of_mem_take hp)) (by unfold imn; dsimp only; split <;> omega)) h (by repeat (first | exact Sub.nil _ | apply Sub.c0 | apply Sub.c1 | apply Sub.c2 | apply Sub.c3 | apply Sub.c4 | apply Sub.c5 | apply Sub.c6 | apply Sub.c7 | apply Sub.c8 | apply Sub.c9 | apply Sub.c10 | apply Sub.c11 | exact Sub.refl _)) (fun w' hk => parts_rd (hg w' hk).rd) fun w h => ?_
          try dsimp only [List.set, setL, List.eraseIdx, List.cons_append, List.nil_append, List.append_nil, Nat.zero_add, Nat.reduceAdd, Sl.v] at h
          refine t_bind ?_
          by_cases hE : M.postE l q (o.ps.take 70) = 0
          · have e0 := mayPost_le _ _ _ hE
            have hm := mayPost_ok hE
            have hq1 := postQ1_inv (l := l) (ps := o.ps.take 70) hq
            have hl1 : (M.postM1 l q (o.ps.take 70)).length ≤ 2048 := by rw [postM1_length]; exact hl
            have eq1 : M.postQ1 l q (o.ps.take 70) = M.postQ l q (o.ps.take 70) := if_pos hE
            have hid : M.postId l q (o.ps.take 70) = (M.leastId q.held : Nat) := if_pos hE
            have hlt2 := leastId_lt hq (by omega)
            have hsz := hok.size
            have f1 : (M.postQ1 l q (o.ps.take 70)).free = IntKind.i64.wrap (q.free - (o.parts.n : Int)) := by
              rw [eq1, postQ_free, e0, hpl, w64 (by have := hok.free; rw [e0] at hm; omega)]
            have f2 : (((M.postQ1 l q (o.ps.take 70)).held.length : Nat) : Int) = IntKind.i64.wrap ((l11.n : Int) + 1) := by
              rw [eq1, postQ_hlen, hn11, w64 (by omega)]; omega
            have f3 : ¬ M.postId l q (o.ps.take 70) < 0 := by rw [hid]; omega
            have f4 : ¬ y.size ≤ M.postId l q (o.ps.take 70) := by rw [hid, ← hy2]; omega
            have hy1 : (M.postQ1 l q (o.ps.take 70)).l = y := by rw [eq1]; exact hy2
            have hk1 := Inv_i64 hq1
            have hkl1 : (M.postQ1 l q (o.ps.take 70)).held.length ≤ 1048576 := by have := hq1.ok.len; omega
            generalize M.postQ1 l q (o.ps.take 70) = q1 at *
            generalize M.postM1 l q (o.ps.take 70) = l1 at *
            generalize M.postId l q (o.ps.take 70) = id at *
            rw [hE]
            refine t_nyes rfl (t_jmp ⟨(), rfl, ?_⟩)
            repeat (first
              | refine t_tickS h fun w h => ?_
              | refine t_keepN ?_
              | refine t_ldB h 0 rfl rfl ?_
              | refine t_ldB h 1 rfl rfl ?_
              | refine t_ldB h 2 rfl rfl ?_
              | refine t_ldB h 3 rfl rfl ?_
              | refine t_ldB h 4 rfl rfl ?_
              | refine t_ldB h 5 rfl rfl ?_
              | refine t_ldB h 6 rfl rfl ?_
              | refine t_ldB h 7 rfl rfl ?_
              | refine t_ldB h 8 rfl rfl ?_
              | refine t_ldB h 9 rfl rfl ?_
              | refine t_ldB h 10 rfl rfl ?_
              | refine t_ldB h 11 rfl rfl ?_
              | refine t_ldO h 0 rfl rfl rfl ?_
              | refine t_ldO h 1 rfl rfl rfl ?_
              | refine t_ldO h 2 rfl rfl rfl ?_
              | refine t_ldO h 3 rfl rfl rfl ?_
              | refine t_ldO h 4 rfl rfl rfl ?_
              | refine t_ldO h 5 rfl rfl rfl ?_
              | refine t_ldO h 6 rfl rfl rfl ?_
              | refine t_ldO h 7 rfl rfl rfl ?_
              | refine t_ldO h 8 rfl rfl rfl ?_
              | refine t_ldO h 9 rfl rfl rfl ?_
              | refine t_ldO h 10 rfl rfl rfl ?_
              | refine t_ldO h 11 rfl rfl rfl ?_
              | refine t_keepB h 0 rfl rfl ?_
              | refine t_keepB h 1 rfl rfl ?_
              | refine t_keepB h 2 rfl rfl ?_
              | refine t_keepB h 3 rfl rfl ?_
              | refine t_keepB h 4 rfl rfl ?_
              | refine t_keepB h 5 rfl rfl ?_
              | refine t_keepB h 6 rfl rfl ?_
              | refine t_keepB h 7 rfl rfl ?_
              | refine t_keepB h 8 rfl rfl ?_
              | refine t_keepB h 9 rfl rfl ?_
              | refine t_keepB h 10 rfl rfl ?_
              | refine t_keepB h 11 rfl rfl ?_
              | (refine t_stB h 0 rfl (by simp [setL]) (by simp [Value.oneCell']) fun w h => ?_; try dsimp only [List.set, setL, List.eraseIdx, List.cons_append, List.nil_append, List.append_nil, Nat.zero_add, Nat.reduceAdd, Sl.v] at h)
              | (refine t_stB h 1 rfl (by simp [setL]) (by simp [Value.oneCell']) fun w h => ?_; try dsimp only [List.set, setL, List.eraseIdx, List.cons_append, List.nil_append, List.append_nil, Nat.zero_add, Nat.reduceAdd, Sl.v] at h)
              | (refine t_stB h 2 rfl (by simp [setL]) (by simp [Value.oneCell']) fun w h => ?_; try dsimp only [List.set, setL, List.eraseIdx, List.cons_append, List.nil_append, List.append_nil, Nat.zero_add, Nat.reduceAdd, Sl.v] at h)
              | (refine t_stB h 3 rfl (by simp [setL]) (by simp [Value.oneCell']) fun w h => ?_; try dsimp only [List.set, setL, List.eraseIdx, List.cons_append, List.nil_append, List.append_nil, Nat.zero_add, Nat.reduceAdd, Sl.v] at h)
              | (refine t_stB h 4 rfl (by simp [setL]) (by simp [Value.oneCell']) fun w h => ?_; try dsimp only [List.set, setL, List.eraseIdx, List.cons_append, List.nil_append, List.append_nil, Nat.zero_add, Nat.reduceAdd, Sl.v] at h)
              | (refine t_stB h 5 rfl (by simp [setL]) (by simp [Value.oneCell']) fun w h => ?_; try dsimp only [List.set, setL, List.eraseIdx, List.cons_append, List.nil_append, List.append_nil, Nat.zero_add, Nat.reduceAdd, Sl.v] at h)
              | (refine t_stB h 6 rfl (by simp [setL]) (by simp [Value.oneCell']) fun w h => ?_; try dsimp only [List.set, setL, List.eraseIdx, List.cons_append, List.nil_append, List.append_nil, Nat.zero_add, Nat.reduceAdd, Sl.v] at h)
              | (refine t_stB h 7 rfl (by simp [setL]) (by simp [Value.oneCell']) fun w h => ?_; try dsimp only [List.set, setL, List.eraseIdx, List.cons_append, List.nil_append, List.append_nil, Nat.zero_add, Nat.reduceAdd, Sl.v] at h)
              | (refine t_stB h 8 rfl (by simp [setL]) (by simp [Value.oneCell']) fun w h => ?_; try dsimp only [List.set, setL, List.eraseIdx, List.cons_append, List.nil_append, List.append_nil, Nat.zero_add, Nat.reduceAdd, Sl.v] at h)
              | (refine t_stB h 9 rfl (by simp [setL]) (by simp [Value.oneCell']) fun w h => ?_; try dsimp only [List.set, setL, List.eraseIdx, List.cons_append, List.nil_append, List.append_nil, Nat.zero_add, Nat.reduceAdd, Sl.v] at h)
              | (refine t_stB h 10 rfl (by simp [setL]) (by simp [Value.oneCell']) fun w h => ?_; try dsimp only [List.set, setL, List.eraseIdx, List.cons_append, List.nil_append, List.append_nil, Nat.zero_add, Nat.reduceAdd, Sl.v] at h)
              | (refine t_stB h 11 rfl (by simp [setL]) (by simp [Value.oneCell']) fun w h => ?_; try dsimp only [List.set, setL, List.eraseIdx, List.cons_append, List.nil_append, List.append_nil, Nat.zero_add, Nat.reduceAdd, Sl.v] at h)
              | refine t_newB h (by simp [Value.oneCell']) fun w b h hb => ?_
              | refine t_nil ?_
              | refine t_true rfl ?_
              | refine t_false rfl ?_
              | refine t_yes rfl ?_
              | refine t_nyes rfl ?_
              | refine t_no (by decide) ?_
              | refine t_nno (by decide) ?_
              | refine t_need (by decide) ?_
              | refine t_both ?_ ?_
              | ((first | refine t_fn (drvq_Free_fn) h (by repeat (first | exact Sub.nil _ | apply Sub.c0 | apply Sub.c1 | apply Sub.c2 | apply Sub.c3 | apply Sub.c4 | apply Sub.c5 | apply Sub.c6 | apply Sub.c7 | apply Sub.c8 | apply Sub.c9 | apply Sub.c10 | apply Sub.c11 | exact Sub.refl _)) noRo fun w h => ?_ | refine t_fnn (drvq_Free_fn) h (by repeat (first | exact Sub.nil _ | apply Sub.c0 | apply Sub.c1 | apply Sub.c2 | apply Sub.c3 | apply Sub.c4 | apply Sub.c5 | apply Sub.c6 | apply Sub.c7 | apply Sub.c8 | apply Sub.c9 | apply Sub.c10 | apply Sub.c11 | exact Sub.refl _)) noRo fun w h => ?_); try dsimp only [List.set, setL, List.eraseIdx, List.cons_append, List.nil_append, List.append_nil, Nat.zero_add, Nat.reduceAdd, Sl.v] at h)
              | ((first | refine t_fnE (drvq_Held_fn hk1 hkl1) h (by repeat (first | exact Sub.nil _ | apply Sub.c0 | apply Sub.c1 | apply Sub.c2 | apply Sub.c3 | apply Sub.c4 | apply Sub.c5 | apply Sub.c6 | apply Sub.c7 | apply Sub.c8 | apply Sub.c9 | apply Sub.c10 | apply Sub.c11 | exact Sub.refl _)) noRo ?_ | refine t_fnnE (drvq_Held_fn hk1 hkl1) h (by repeat (first | exact Sub.nil _ | apply Sub.c0 | apply Sub.c1 | apply Sub.c2 | apply Sub.c3 | apply Sub.c4 | apply Sub.c5 | apply Sub.c6 | apply Sub.c7 | apply Sub.c8 | apply Sub.c9 | apply Sub.c10 | apply Sub.c11 | exact Sub.refl _)) noRo ?_); rintro s2 post ⟨hs2, rfl⟩ w h; try dsimp only [List.set, setL, List.eraseIdx, List.cons_append, List.nil_append, List.append_nil, Nat.zero_add, Nat.reduceAdd, Sl.v] at h)
              | refine t_nyes f1 ?_
              | refine t_nyes (by rw [hs2]; exact f2) ?_
              | refine t_no f3 ?_
              | refine t_no f4 ?_
              | exact t_next (next _ _ _ hq1 hy1 hl1 (h.weak (by repeat (first | exact Weak.refl _ | apply Weak.c0 | apply Weak.c1 | apply Weak.c2 | apply Weak.c3 | apply Weak.c4 | apply Weak.c5 | apply Weak.c6 | apply Weak.c7 | apply Weak.c8 | apply Weak.c9 | apply Weak.c10 | apply Weak.c11 | apply Weak.drop)))))
            try dsimp only [List.set, setL, List.eraseIdx, List.cons_append, List.nil_append, List.append_nil, Nat.zero_add, Nat.reduceAdd, Sl.v] at h
          · have hno := postQ1_no hE
            have hid : M.postId l q (o.ps.take 70) = 0 := if_neg hE
            rw [hno.1, hno.2] at h
            rw [hid]
            repeat (first
              | refine t_tickS h fun w h => ?_
              | refine t_keepN ?_
              | refine t_ldB h 0 rfl rfl ?_
              | refine t_ldB h 1 rfl rfl ?_
              | refine t_ldB h 2 rfl rfl ?_
              | refine t_ldB h 3 rfl rfl ?_
              | refine t_ldB h 4 rfl rfl ?_
              | refine t_ldB h 5 rfl rfl ?_
              | refine t_ldB h 6 rfl rfl ?_
              | refine t_ldB h 7 rfl rfl ?_
              | refine t_ldB h 8 rfl rfl ?_
              | refine t_ldB h 9 rfl rfl ?_
              | refine t_ldB h 10 rfl rfl ?_
              | refine t_ldB h 11 rfl rfl ?_
              | refine t_ldO h 0 rfl rfl rfl ?_
              | refine t_ldO h 1 rfl rfl rfl ?_
              | refine t_ldO h 2 rfl rfl rfl ?_
              | refine t_ldO h 3 rfl rfl rfl ?_
              | refine t_ldO h 4 rfl rfl rfl ?_
              | refine t_ldO h 5 rfl rfl rfl ?_
              | refine t_ldO h 6 rfl rfl rfl ?_
              | refine t_ldO h 7 rfl rfl rfl ?_
              | refine t_ldO h 8 rfl rfl rfl ?_
              | refine t_ldO h 9 rfl rfl rfl ?_
              | refine t_ldO h 10 rfl rfl rfl ?_
              | refine t_ldO h 11 rfl rfl rfl ?_
              | refine t_keepB h 0 rfl rfl ?_
              | refine t_keepB h 1 rfl rfl ?_
              | refine t_keepB h 2 rfl rfl ?_
              | refine t_keepB h 3 rfl rfl ?_
              | refine t_keepB h 4 rfl rfl ?_
              | refine t_keepB h 5 rfl rfl ?_
              | refine t_keepB h 6 rfl rfl ?_
              | refine t_keepB h 7 rfl rfl ?_
              | refine t_keepB h 8 rfl rfl ?_
              | refine t_keepB h 9 rfl rfl ?_
              | refine t_keepB h 10 rfl rfl ?_
              | refine t_keepB h 11 rfl rfl ?_
              | (refine t_stB h 0 rfl (by simp [setL]) (by simp [Value.oneCell']) fun w h => ?_; try dsimp only [List.set, setL, List.eraseIdx, List.cons_append, List.nil_append, List.append_nil, Nat.zero_add, Nat.reduceAdd, Sl.v] at h)
              | (refine t_stB h 1 rfl (by simp [setL]) (by simp [Value.oneCell']) fun w h => ?_; try dsimp only [List.set, setL, List.eraseIdx, List.cons_append, List.nil_append, List.append_nil, Nat.zero_add, Nat.reduceAdd, Sl.v] at h)
              | (refine t_stB h 2 rfl (by simp [setL]) (by simp [Value.oneCell']) fun w h => ?_; try dsimp only [List.set, setL, List.eraseIdx, List.cons_append, List.nil_append, List.append_nil, Nat.zero_add, Nat.reduceAdd, Sl.v] at h)
              | (refine t_stB h 3 rfl (by simp [setL]) (by simp [Value.oneCell']) fun w h => ?_; try dsimp only [List.set, setL, List.eraseIdx, List.cons_append, List.nil_append, List.append_nil, Nat.zero_add, Nat.reduceAdd, Sl.v] at h)
              | (refine t_stB h 4 rfl (by simp [setL]) (by simp [Value.oneCell']) fun w h => ?_; try dsimp only [List.set, setL, List.eraseIdx, List.cons_append, List.nil_append, List.append_nil, Nat.zero_add, Nat.reduceAdd, Sl.v] at h)
              | (refine t_stB h 5 rfl (by simp [setL]) (by simp [Value.oneCell']) fun w h => ?_; try dsimp only [List.set, setL, List.eraseIdx, List.cons_append, List.nil_append, List.append_nil, Nat.zero_add, Nat.reduceAdd, Sl.v] at h)
              | (refine t_stB h 6 rfl (by simp [setL]) (by simp [Value.oneCell']) fun w h => ?_; try dsimp only [List.set, setL, List.eraseIdx, List.cons_append, List.nil_append, List.append_nil, Nat.zero_add, Nat.reduceAdd, Sl.v] at h)
              | (refine t_stB h 7 rfl (by simp [setL]) (by simp [Value.oneCell']) fun w h => ?_; try dsimp only [List.set, setL, List.eraseIdx, List.cons_append, List.nil_append, List.append_nil, Nat.zero_add, Nat.reduceAdd, Sl.v] at h)
              | (refine t_stB h 8 rfl (by simp [setL]) (by simp [Value.oneCell']) fun w h => ?_; try dsimp only [List.set, setL, List.eraseIdx, List.cons_append, List.nil_append, List.append_nil, Nat.zero_add, Nat.reduceAdd, Sl.v] at h)
              | (refine t_stB h 9 rfl (by simp [setL]) (by simp [Value.oneCell']) fun w h => ?_; try dsimp only [List.set, setL, List.eraseIdx, List.cons_append, List.nil_append, List.append_nil, Nat.zero_add, Nat.reduceAdd, Sl.v] at h)
              | (refine t_stB h 10 rfl (by simp [setL]) (by simp [Value.oneCell']) fun w h => ?_; try dsimp only [List.set, setL, List.eraseIdx, List.cons_append, List.nil_append, List.append_nil, Nat.zero_add, Nat.reduceAdd, Sl.v] at h)
              | (refine t_stB h 11 rfl (by simp [setL]) (by simp [Value.oneCell']) fun w h => ?_; try dsimp only [List.set, setL, List.eraseIdx, List.cons_append, List.nil_append, List.append_nil, Nat.zero_add, Nat.reduceAdd, Sl.v] at h)
              | refine t_newB h (by simp [Value.oneCell']) fun w b h hb => ?_
              | refine t_nil ?_
              | refine t_true rfl ?_
              | refine t_false rfl ?_
              | refine t_yes rfl ?_
              | refine t_nyes rfl ?_
              | refine t_no (by decide) ?_
              | refine t_nno (by decide) ?_
              | refine t_need (by decide) ?_
              | refine t_both ?_ ?_
              | refine t_nno hE ?_
              | refine t_no hE ?_
              | ((first | refine t_fn (gmem_Image_fn) h (by repeat (first | exact Sub.nil _ | apply Sub.c0 | apply Sub.c1 | apply Sub.c2 | apply Sub.c3 | apply Sub.c4 | apply Sub.c5 | apply Sub.c6 | apply Sub.c7 | apply Sub.c8 | apply Sub.c9 | apply Sub.c10 | apply Sub.c11 | exact Sub.refl _)) noRo fun w h => ?_ | refine t_fnn (gmem_Image_fn) h (by repeat (first | exact Sub.nil _ | apply Sub.c0 | apply Sub.c1 | apply Sub.c2 | apply Sub.c3 | apply Sub.c4 | apply Sub.c5 | apply Sub.c6 | apply Sub.c7 | apply Sub.c8 | apply Sub.c9 | apply Sub.c10 | apply Sub.c11 | exact Sub.refl _)) noRo fun w h => ?_); try dsimp only [List.set, setL, List.eraseIdx, List.cons_append, List.nil_append, List.append_nil, Nat.zero_add, Nat.reduceAdd, Sl.v] at h)
              | ((first | refine t_fn (drvq_Free_fn) h (by repeat (first | exact Sub.nil _ | apply Sub.c0 | apply Sub.c1 | apply Sub.c2 | apply Sub.c3 | apply Sub.c4 | apply Sub.c5 | apply Sub.c6 | apply Sub.c7 | apply Sub.c8 | apply Sub.c9 | apply Sub.c10 | apply Sub.c11 | exact Sub.refl _)) noRo fun w h => ?_ | refine t_fnn (drvq_Free_fn) h (by repeat (first | exact Sub.nil _ | apply Sub.c0 | apply Sub.c1 | apply Sub.c2 | apply Sub.c3 | apply Sub.c4 | apply Sub.c5 | apply Sub.c6 | apply Sub.c7 | apply Sub.c8 | apply Sub.c9 | apply Sub.c10 | apply Sub.c11 | exact Sub.refl _)) noRo fun w h => ?_); try dsimp only [List.set, setL, List.eraseIdx, List.cons_append, List.nil_append, List.append_nil, Nat.zero_add, Nat.reduceAdd, Sl.v] at h)
              | ((first | refine t_fnE (drvq_Held_fn hk64 hklen) h (by repeat (first | exact Sub.nil _ | apply Sub.c0 | apply Sub.c1 | apply Sub.c2 | apply Sub.c3 | apply Sub.c4 | apply Sub.c5 | apply Sub.c6 | apply Sub.c7 | apply Sub.c8 | apply Sub.c9 | apply Sub.c10 | apply Sub.c11 | exact Sub.refl _)) noRo ?_ | refine t_fnnE (drvq_Held_fn hk64 hklen) h (by repeat (first | exact Sub.nil _ | apply Sub.c0 | apply Sub.c1 | apply Sub.c2 | apply Sub.c3 | apply Sub.c4 | apply Sub.c5 | apply Sub.c6 | apply Sub.c7 | apply Sub.c8 | apply Sub.c9 | apply Sub.c10 | apply Sub.c11 | exact Sub.refl _)) noRo ?_); rintro s2 post ⟨hs2, rfl⟩ w h; try dsimp only [List.set, setL, List.eraseIdx, List.cons_append, List.nil_append, List.append_nil, Nat.zero_add, Nat.reduceAdd, Sl.v] at h)
              | ((first | refine t_fn (Same_own _ _ (by rw [keysOf_length]; exact hklen)) h (by repeat (first | exact Sub.nil _ | apply Sub.c0 | apply Sub.c1 | apply Sub.c2 | apply Sub.c3 | apply Sub.c4 | apply Sub.c5 | apply Sub.c6 | apply Sub.c7 | apply Sub.c8 | apply Sub.c9 | apply Sub.c10 | apply Sub.c11 | exact Sub.refl _)) noRo fun w h => ?_ | refine t_fnn (Same_own _ _ (by rw [keysOf_length]; exact hklen)) h (by repeat (first | exact Sub.nil _ | apply Sub.c0 | apply Sub.c1 | apply Sub.c2 | apply Sub.c3 | apply Sub.c4 | apply Sub.c5 | apply Sub.c6 | apply Sub.c7 | apply Sub.c8 | apply Sub.c9 | apply Sub.c10 | apply Sub.c11 | exact Sub.refl _)) noRo fun w h => ?_); try dsimp only [List.set, setL, List.eraseIdx, List.cons_append, List.nil_append, List.append_nil, Nat.zero_add, Nat.reduceAdd, Sl.v] at h)
              | refine t_jmp ⟨(), rfl, ?_⟩
              | exact t_next (next _ _ _ hq hy2 hl (h.weak (by repeat (first | exact Weak.refl _ | apply Weak.c0 | apply Weak.c1 | apply Weak.c2 | apply Weak.c3 | apply Weak.c4 | apply Weak.c5 | apply Weak.c6 | apply Weak.c7 | apply Weak.c8 | apply Weak.c9 | apply Weak.c10 | apply Weak.c11 | apply Weak.drop)))))
            try dsimp only [List.set, setL, List.eraseIdx, List.cons_append, List.nil_append, List.append_nil, Nat.zero_add, Nat.reduceAdd, Sl.v] at h
        refine t_if (fun k1 => ?_) (fun k1 => ?_)
        · repeat (first
            | refine t_tickS h fun w h => ?_
            | refine t_keepN ?_
            | refine t_ldB h 0 rfl rfl ?_
            | refine t_ldB h 1 rfl rfl ?_
            | refine t_ldB h 2 rfl rfl ?_
            | refine t_ldB h 3 rfl rfl ?_
            | refine t_ldB h 4 rfl rfl ?_
            | refine t_ldB h 5 rfl rfl ?_
            | refine t_ldB h 6 rfl rfl ?_
            | refine t_ldB h 7 rfl rfl ?_
            | refine t_ldB h 8 rfl rfl ?_
            | refine t_ldB h 9 rfl rfl ?_
            | refine t_ldO h 0 rfl rfl rfl ?_
            | refine t_ldO h 1 rfl rfl rfl ?_
            | refine t_ldO h 2 rfl rfl rfl ?_
            | refine t_ldO h 3 rfl rfl rfl ?_
            | refine t_ldO h 4 rfl rfl rfl ?_
            | refine t_ldO h 5 rfl rfl rfl ?_
            | refine t_ldO h 6 rfl rfl rfl ?_
            | refine t_ldO h 7 rfl rfl rfl ?_
            | refine t_ldO h 8 rfl rfl rfl ?_
            | refine t_ldO h 9 rfl rfl rfl ?_
            | refine t_keepB h 0 rfl rfl ?_
            | refine t_keepB h 1 rfl rfl ?_
            | refine t_keepB h 2 rfl rfl ?_
            | refine t_keepB h 3 rfl rfl ?_
            | refine t_keepB h 4 rfl rfl ?_
            | refine t_keepB h 5 rfl rfl ?_
            | refine t_keepB h 6 rfl rfl ?_
            | refine t_keepB h 7 rfl rfl ?_
            | refine t_keepB h 8 rfl rfl ?_
            | refine t_keepB h 9 rfl rfl ?_
            | (refine t_stB h 0 rfl (by simp [setL]) (by simp [Value.oneCell']) fun w h => ?_; try dsimp only [List.set, setL, List.eraseIdx, List.cons_append, List.nil_append, List.append_nil, Nat.zero_add, Nat.reduceAdd, Sl.v] at h)
            | (refine t_stB h 1 rfl (by simp [setL]) (by simp [Value.oneCell']) fun w h => ?_; try dsimp only [List.set, setL, List.eraseIdx, List.cons_append, List.nil_append, List.append_nil, Nat.zero_add, Nat.reduceAdd, Sl.v] at h)
            | (refine t_stB h 2 rfl (by simp [setL]) (by simp [Value.oneCell']) fun w h => ?_; try dsimp only [List.set, setL, List.eraseIdx, List.cons_append, List.nil_append, List.append_nil, Nat.zero_add, Nat.reduceAdd, Sl.v] at h)
            | (refine t_stB h 3 rfl (by simp [setL]) (by simp [Value.oneCell']) fun w h => ?_; try dsimp only [List.set, setL, List.eraseIdx, List.cons_append, List.nil_append, List.append_nil, Nat.zero_add, Nat.reduceAdd, Sl.v] at h)
            | (refine t_stB h 4 rfl (by simp [setL]) (by simp [Value.oneCell']) fun w h => ?_; try dsimp only [List.set, setL, List.eraseIdx, List.cons_append, List.nil_append, List.append_nil, Nat.zero_add, Nat.reduceAdd, Sl.v] at h)
            | (refine t_stB h 5 rfl (by simp [setL]) (by simp [Value.oneCell']) fun w h => ?_; try dsimp only [List.set, setL, List.eraseIdx, List.cons_append, List.nil_append, List.append_nil, Nat.zero_add, Nat.reduceAdd, Sl.v] at h)
            | (refine t_stB h 6 rfl (by simp [setL]) (by simp [Value.oneCell']) fun w h => ?_; try dsimp only [List.set, setL, List.eraseIdx, List.cons_append, List.nil_append, List.append_nil, Nat.zero_add, Nat.reduceAdd, Sl.v] at h)
            | (refine t_stB h 7 rfl (by simp [setL]) (by simp [Value.oneCell']) fun w h => ?_; try dsimp only [List.set, setL, List.eraseIdx, List.cons_append, List.nil_append, List.append_nil, Nat.zero_add, Nat.reduceAdd, Sl.v] at h)
            | (refine t_stB h 8 rfl (by simp [setL]) (by simp [Value.oneCell']) fun w h => ?_; try dsimp only [List.set, setL, List.eraseIdx, List.cons_append, List.nil_append, List.append_nil, Nat.zero_add, Nat.reduceAdd, Sl.v] at h)
            | (refine t_stB h 9 rfl (by simp [setL]) (by simp [Value.oneCell']) fun w h => ?_; try dsimp only [List.set, setL, List.eraseIdx, List.cons_append, List.nil_append, List.append_nil, Nat.zero_add, Nat.reduceAdd, Sl.v] at h)
            | refine t_newB h (by simp [Value.oneCell']) fun w b h hb => ?_
            | refine t_nil ?_
            | refine t_true rfl ?_
            | refine t_false rfl ?_
            | refine t_yes rfl ?_
            | refine t_nyes rfl ?_
            | refine t_no (by decide) ?_
            | refine t_nno (by decide) ?_
            | refine t_need (by decide) ?_)
          try dsimp only [List.set, setL, List.eraseIdx, List.cons_append, List.nil_append, List.append_nil, Nat.zero_add, Nat.reduceAdd, Sl.v] at h
          first | refine t_fn (drvq_Reap_fn (l := l) (q := q) hq (by omega)) h (by repeat (first | exact Sub.nil _ | apply Sub.c0 | apply Sub.c1 | apply Sub.c2 | apply Sub.c3 | apply Sub.c4 | apply Sub.c5 | apply Sub.c6 | apply Sub.c7 | apply Sub.c8 | apply Sub.c9 | apply Sub.c10 | apply Sub.c11 | exact Sub.refl _)) noRo fun w h => ?_ | refine t_fnn (drvq_Reap_fn (l := l) (q := q) hq (by omega)) h (by repeat (first | exact Sub.nil _ | apply Sub.c0 | apply Sub.c1 | apply Sub.c2 | apply Sub.c3 | apply Sub.c4 | apply Sub.c5 | apply Sub.c6 | apply Sub.c7 | apply Sub.c8 | apply Sub.c9 | apply Sub.c10 | apply Sub.c11 | exact Sub.refl _)) noRo fun w h => ?_
          try dsimp only [List.set, setL, List.eraseIdx, List.cons_append, List.nil_append, List.append_nil, Nat.zero_add, Nat.reduceAdd, Sl.v] at h
          have hq1 := reapQ1_inv (l := l) hq
          have hy1 : (M.reapQ1 l q).l = y := by unfold M.reapQ1; split <;> exact hy2
          have hk1 := Inv_i64 hq1
          have hkl1 : (M.reapQ1 l q).held.length ≤ 1048576 := by have := hq1.ok.len; omega
          have hKl := keysOf_length q.held
          refine t_loop (fun m st w' => ∃ (j : Nat) (had : Bool), j ≤ l11.n ∧ m = l11.n - j ∧ st = (had, (j : Int), ()) ∧ had = ((M.keysOf q.held).take j).contains (M.reapId l q) ∧ w' = w) l11.n ⟨0, false, by omega, rfl, rfl, by simp, rfl⟩ ?_
          rintro m st w' ⟨j, had, hj, rfl, rfl, hhad, rfl⟩ Ks2 hJ2 hK2
          dsimp only
          refine t_if (fun d1 => ?_) (fun d1 => ?_)
          · have hlt2 : j < (M.keysOf q.held).length := by rw [hKl, ← hn11]; omega
            rw [w64 (n := (j : Int) + 1) (by omega)]
            have htake := take_snoc_gen (M.keysOf q.held) j hlt2
            refine t_cond (fun d2 => ?_) (fun d2 => ?_)
            · refine t_next (hJ2 (l11.n - (j + 1)) (true, ((j + 1 : Nat) : Int), ()) _ (by omega) ⟨j + 1, true, by omega, rfl, rfl, ?_, rfl⟩)
              rw [htake, List.contains_append, ← hhad, d2]; simp
            · refine t_need (by omega) ?_
              refine t_nilO h 3 rfl (by omega) fun a2 ha2 => ?_
              rw [Int.toNat_natCast]
              refine t_ldO h 3 rfl ha2 (x := (M.keysOf q.held).getD j 0) (by rw [intsV_get hlt2]; rfl) ?_
              refine t_next (hJ2 (l11.n - (j + 1)) (decide ((M.keysOf q.held).getD j 0 = M.reapId l q), ((j + 1 : Nat) : Int), ()) _ (by omega) ⟨j + 1, _, by omega, rfl, rfl, ?_, rfl⟩)
              rw [htake, List.contains_append, ← hhad, d2]
              simp [eq_comm]
          · have hje : j = l11.n := by omega
            subst hje
            rw [List.take_of_length_le (by rw [hKl, ← hn11]; exact Nat.le_refl _)] at hhad
            have next2 : ∀ w' (q' : M.DQ) (l' : List UInt8), q'.Inv → q'.l = y → l'.length ≤ 2048 → St w0 W w' (dqR qb mb q' :: memR mb l' :: blkR wb [.int .i64 bytes, .int .i64 y.ring, .int .i64 y.size, .int .i64 y.drv, .int .i64 y.dev, .slice sc.a sc.n sc.c] 26 :: B) → Ks2 0 [.int .i64 (IntKind.i64.wrap ((i : Int) + 1))] w' := fun w' q' l' g1 g2 g3 g4 => by
              rw [hK2 0 (by decide)]; exact next w' q' l' g1 g2 g3 g4
            clear hJ2 hK2 hJ
            by_cases hI : M.reapIs l q = true
            · have hI' := hI
              simp only [M.reapIs, Bool.and_eq_true, decide_eq_true_eq] at hI'
              have hE : M.reapE l q = 0 := by simp [M.reapE, hI'.1, hI'.2]
              have hId : M.reapId l q = (M.reapDesc l q).id := by simp [M.reapId, hI]
              have hh : had = true := by
                rw [hhad, List.contains_iff_mem, hId, ← hasId_keys]; exact hI'.2
              have g1 : (((M.reapQ1 l q).held.length : Nat) : Int) = IntKind.i64.wrap ((l11.n : Int) - 1) := by
                have hm := mem_sizeOf hI'.2
                have e1 : (M.reapQ1 l q).held = q.held.filter (fun p => p.1 ≠ (M.reapDesc l q).id) := by unfold M.reapQ1; rw [if_pos hI]; rfl
                rw [e1, filter_id_length hq.nodup hm, hn11, w64 (by omega)]
                have := List.length_pos_of_mem hm
                omega
              rw [hI, hE, hh]
              generalize M.reapQ1 l q = q1 at *
              repeat (first
                | refine t_tickS h fun w h => ?_
                | refine t_keepN ?_
                | refine t_ldB h 0 rfl rfl ?_
                | refine t_ldB h 1 rfl rfl ?_
                | refine t_ldB h 2 rfl rfl ?_
                | refine t_ldB h 3 rfl rfl ?_
                | refine t_ldB h 4 rfl rfl ?_
                | refine t_ldB h 5 rfl rfl ?_
                | refine t_ldB h 6 rfl rfl ?_
                | refine t_ldB h 7 rfl rfl ?_
                | refine t_ldB h 8 rfl rfl ?_
                | refine t_ldB h 9 rfl rfl ?_
                | refine t_ldB h 10 rfl rfl ?_
                | refine t_ldB h 11 rfl rfl ?_
                | refine t_ldO h 0 rfl rfl rfl ?_
                | refine t_ldO h 1 rfl rfl rfl ?_
                | refine t_ldO h 2 rfl rfl rfl ?_
                | refine t_ldO h 3 rfl rfl rfl ?_
                | refine t_ldO h 4 rfl rfl rfl ?_
                | refine t_ldO h 5 rfl rfl rfl ?_
                | refine t_ldO h 6 rfl rfl rfl ?_
                | refine t_ldO h 7 rfl rfl rfl ?_
                | refine t_ldO h 8 rfl rfl rfl ?_
                | refine t_ldO h 9 rfl rfl rfl ?_
                | refine t_ldO h 10 rfl rfl rfl ?_
                | refine t_ldO h 11 rfl rfl rfl ?_
                | refine t_keepB h 0 rfl rfl ?_
                | refine t_keepB h 1 rfl rfl ?_
                | refine t_keepB h 2 rfl rfl ?_
                | refine t_keepB h 3 rfl rfl ?_
                | refine t_keepB h 4 rfl rfl ?_
                | refine t_keepB h 5 rfl rfl ?_
                | refine t_keepB h 6 rfl rfl ?_
                | refine t_keepB h 7 rfl rfl ?_
                | refine t_keepB h 8 rfl rfl ?_
                | refine t_keepB h 9 rfl rfl ?_
                | refine t_keepB h 10 rfl rfl ?_
                | refine t_keepB h 11 rfl rfl ?_
                | (refine t_stB h 0 rfl (by simp [setL]) (by simp [Value.oneCell']) fun w h => ?_; try dsimp only [List.set, setL, List.eraseIdx, List.cons_append, List.nil_append, List.append_nil, Nat.zero_add, Nat.reduceAdd, Sl.v] at h)
                | (refine t_stB h 1 rfl (by simp [setL]) (by simp [Value.oneCell']) fun w h => ?_; try dsimp only [List.set, setL, List.eraseIdx, List.cons_append, List.nil_append, List.append_nil, Nat.zero_add, Nat.reduceAdd, Sl.v] at h)
                | (refine t_stB h 2 rfl (by simp [setL]) (by simp [Value.oneCell']) fun w h => ?_; try dsimp only [List.set, setL, List.eraseIdx, List.cons_append, List.nil_append, List.append_nil, Nat.zero_add, Nat.reduceAdd, Sl.v] at h)
                | (refine t_stB h 3 rfl (by simp [setL]) (by simp [Value.oneCell']) fun w h => ?_; try dsimp only [List.set, setL, List.eraseIdx, List.cons_append, List.nil_append, List.append_nil, Nat.zero_add, Nat.reduceAdd, Sl.v] at h)
                | (refine t_stB h 4 rfl (by simp [setL]) (by simp [Value.oneCell']) fun w h => ?_; try dsimp only [List.set, setL, List.eraseIdx, List.cons_append, List.nil_append, List.append_nil, Nat.zero_add, Nat.reduceAdd, Sl.v] at h)
                | (refine t_stB h 5 rfl (by simp [setL]) (by simp [Value.oneCell']) fun w h => ?_; try dsimp only [List.set, setL, List.eraseIdx, List.cons_append, List.nil_append, List.append_nil, Nat.zero_add, Nat.reduceAdd, Sl.v] at h)
                | (refine t_stB h 6 rfl (by simp [setL]) (by simp [Value.oneCell']) fun w h => ?_; try dsimp only [List.set, setL, List.eraseIdx, List.cons_append, List.nil_append, List.append_nil, Nat.zero_add, Nat.reduceAdd, Sl.v] at h)
                | (refine t_stB h 7 rfl (by simp [setL]) (by simp [Value.oneCell']) fun w h => ?_; try dsimp only [List.set, setL, List.eraseIdx, List.cons_append, List.nil_append, List.append_nil, Nat.zero_add, Nat.reduceAdd, Sl.v] at h)
                | (refine t_stB h 8 rfl (by simp [setL]) (by simp [Value.oneCell']) fun w h => ?_; try dsimp only [List.set, setL, List.eraseIdx, List.cons_append, List.nil_append, List.append_nil, Nat.zero_add, Nat.reduceAdd, Sl.v] at h)
                | (refine t_stB h 9 rfl (by simp [setL]) (by simp [Value.oneCell']) fun w h => ?_; try dsimp only [List.set, setL, List.eraseIdx, List.cons_append, List.nil_append, List.append_nil, Nat.zero_add, Nat.reduceAdd, Sl.v] at h)
                | (refine t_stB h 10 rfl (by simp [setL]) (by simp [Value.oneCell']) fun w h => ?_; try dsimp only [List.set, setL, List.eraseIdx, List.cons_append, List.nil_append, List.append_nil, Nat.zero_add, Nat.reduceAdd, Sl.v] at h)
                | (refine t_stB h 11 rfl (by simp [setL]) (by simp [Value.oneCell']) fun w h => ?_; try dsimp only [List.set, setL, List.eraseIdx, List.cons_append, List.nil_append, List.append_nil, Nat.zero_add, Nat.reduceAdd, Sl.v] at h)
                | refine t_newB h (by simp [Value.oneCell']) fun w b h hb => ?_
                | refine t_nil ?_
                | refine t_true rfl ?_
                | refine t_false rfl ?_
                | refine t_yes rfl ?_
                | refine t_nyes rfl ?_
                | refine t_no (by decide) ?_
                | refine t_nno (by decide) ?_
                | refine t_need (by decide) ?_
                | refine t_both ?_ ?_
                | ((first | refine t_fnE (drvq_Held_fn hk1 hkl1) h (by repeat (first | exact Sub.nil _ | apply Sub.c0 | apply Sub.c1 | apply Sub.c2 | apply Sub.c3 | apply Sub.c4 | apply Sub.c5 | apply Sub.c6 | apply Sub.c7 | apply Sub.c8 | apply Sub.c9 | apply Sub.c10 | apply Sub.c11 | exact Sub.refl _)) noRo ?_ | refine t_fnnE (drvq_Held_fn hk1 hkl1) h (by repeat (first | exact Sub.nil _ | apply Sub.c0 | apply Sub.c1 | apply Sub.c2 | apply Sub.c3 | apply Sub.c4 | apply Sub.c5 | apply Sub.c6 | apply Sub.c7 | apply Sub.c8 | apply Sub.c9 | apply Sub.c10 | apply Sub.c11 | exact Sub.refl _)) noRo ?_); rintro s2 post ⟨hs2, rfl⟩ w h; try dsimp only [List.set, setL, List.eraseIdx, List.cons_append, List.nil_append, List.append_nil, Nat.zero_add, Nat.reduceAdd, Sl.v] at h)
                | refine t_nyes (by rw [hs2]; exact g1) ?_
                | ((first | refine t_fn (gmem_Image_fn) h (by repeat (first | exact Sub.nil _ | apply Sub.c0 | apply Sub.c1 | apply Sub.c2 | apply Sub.c3 | apply Sub.c4 | apply Sub.c5 | apply Sub.c6 | apply Sub.c7 | apply Sub.c8 | apply Sub.c9 | apply Sub.c10 | apply Sub.c11 | exact Sub.refl _)) noRo fun w h => ?_ | refine t_fnn (gmem_Image_fn) h (by repeat (first | exact Sub.nil _ | apply Sub.c0 | apply Sub.c1 | apply Sub.c2 | apply Sub.c3 | apply Sub.c4 | apply Sub.c5 | apply Sub.c6 | apply Sub.c7 | apply Sub.c8 | apply Sub.c9 | apply Sub.c10 | apply Sub.c11 | exact Sub.refl _)) noRo fun w h => ?_); try dsimp only [List.set, setL, List.eraseIdx, List.cons_append, List.nil_append, List.append_nil, Nat.zero_add, Nat.reduceAdd, Sl.v] at h)
                | exact t_next (next2 _ _ _ hq1 hy1 hl (h.weak (by repeat (first | exact Weak.refl _ | apply Weak.c0 | apply Weak.c1 | apply Weak.c2 | apply Weak.c3 | apply Weak.c4 | apply Weak.c5 | apply Weak.c6 | apply Weak.c7 | apply Weak.c8 | apply Weak.c9 | apply Weak.c10 | apply Weak.c11 | apply Weak.drop)))))
              try dsimp only [List.set, setL, List.eraseIdx, List.cons_append, List.nil_append, List.append_nil, Nat.zero_add, Nat.reduceAdd, Sl.v] at h
            · have hI' : M.reapIs l q = false := by simpa using hI
              rw [reapQ1_no hI'] at h
              rw [hI']
              clear hhad
              cases had <;> (
              repeat (first
                | refine t_tickS h fun w h => ?_
                | refine t_keepN ?_
                | refine t_ldB h 0 rfl rfl ?_
                | refine t_ldB h 1 rfl rfl ?_
                | refine t_ldB h 2 rfl rfl ?_
                | refine t_ldB h 3 rfl rfl ?_
                | refine t_ldB h 4 rfl rfl ?_
                | refine t_ldB h 5 rfl rfl ?_
                | refine t_ldB h 6 rfl rfl ?_
                | refine t_ldB h 7 rfl rfl ?_
                | refine t_ldB h 8 rfl rfl ?_
                | refine t_ldB h 9 rfl rfl ?_
                | refine t_ldB h 10 rfl rfl ?_
                | refine t_ldB h 11 rfl rfl ?_
                | refine t_ldO h 0 rfl rfl rfl ?_
                | refine t_ldO h 1 rfl rfl rfl ?_
                | refine t_ldO h 2 rfl rfl rfl ?_
                | refine t_ldO h 3 rfl rfl rfl ?_
                | refine t_ldO h 4 rfl rfl rfl ?_
                | refine t_ldO h 5 rfl rfl rfl ?_
                | refine t_ldO h 6 rfl rfl rfl ?_
                | refine t_ldO h 7 rfl rfl rfl ?_
                | refine t_ldO h 8 rfl rfl rfl ?_
                | refine t_ldO h 9 rfl rfl rfl ?_
                | refine t_ldO h 10 rfl rfl rfl ?_
                | refine t_ldO h 11 rfl rfl rfl ?_
                | refine t_keepB h 0 rfl rfl ?_
                | refine t_keepB h 1 rfl rfl ?_
                | refine t_keepB h 2 rfl rfl ?_
                | refine t_keepB h 3 rfl rfl ?_
                | refine t_keepB h 4 rfl rfl ?_
                | refine t_keepB h 5 rfl rfl ?_
                | refine t_keepB h 6 rfl rfl ?_
                | refine t_keepB h 7 rfl rfl ?_
                | refine t_keepB h 8 rfl rfl ?_
                | refine t_keepB h 9 rfl rfl ?_
                | refine t_keepB h 10 rfl rfl ?_
                | refine t_keepB h 11 rfl rfl ?_
                | (refine t_stB h 0 rfl (by simp [setL]) (by simp [Value.oneCell']) fun w h => ?_; try dsimp only [List.set, setL, List.eraseIdx, List.cons_append, List.nil_append, List.append_nil, Nat.zero_add, Nat.reduceAdd, Sl.v] at h)
                | (refine t_stB h 1 rfl (by simp [setL]) (by simp [Value.oneCell']) fun w h => ?_; try dsimp only [List.set, setL, List.eraseIdx, List.cons_append, List.nil_append, List.append_nil, Nat.zero_add, Nat.reduceAdd, Sl.v] at h)
                | (refine t_stB h 2 rfl (by simp [setL]) (by simp [Value.oneCell']) fun w h => ?_; try dsimp only [List.set, setL, List.eraseIdx, List.cons_append, List.nil_append, List.append_nil, Nat.zero_add, Nat.reduceAdd, Sl.v] at h)
                | (refine t_stB h 3 rfl (by simp [setL]) (by simp [Value.oneCell']) fun w h => ?_; try dsimp only [List.set, setL, List.eraseIdx, List.cons_append, List.nil_append, List.append_nil, Nat.zero_add, Nat.reduceAdd, Sl.v] at h)
                | (refine t_stB h 4 rfl (by simp [setL]) (by simp [Value.oneCell']) fun w h => ?_; try dsimp only [List.set, setL, List.eraseIdx, List.cons_append, List.nil_append, List.append_nil, Nat.zero_add, Nat.reduceAdd, Sl.v] at h)
                | (refine t_stB h 5 rfl (by simp [setL]) (by simp [Value.oneCell']) fun w h => ?_; try dsimp only [List.set, setL, List.eraseIdx, List.cons_append, List.nil_append, List.append_nil, Nat.zero_add, Nat.reduceAdd, Sl.v] at h)
                | (refine t_stB h 6 rfl (by simp [setL]) (by simp [Value.oneCell']) fun w h => ?_; try dsimp only [List.set, setL, List.eraseIdx, List.cons_append, List.nil_append, List.append_nil, Nat.zero_add, Nat.reduceAdd, Sl.v] at h)
                | (refine t_stB h 7 rfl (by simp [setL]) (by simp [Value.oneCell']) fun w h => ?_; try dsimp only [List.set, setL, List.eraseIdx, List.cons_append, List.nil_append, List.append_nil, Nat.zero_add, Nat.reduceAdd, Sl.v] at h)
                | (refine t_stB h 8 rfl (by simp [setL]) (by simp [Value.oneCell']) fun w h => ?_; try dsimp only [List.set, setL, List.eraseIdx, List.cons_append, List.nil_append, List.append_nil, Nat.zero_add, Nat.reduceAdd, Sl.v] at h)
                | (refine t_stB h 9 rfl (by simp [setL]) (by simp [Value.oneCell']) fun w h => ?_; try dsimp only [List.set, setL, List.eraseIdx, List.cons_append, List.nil_append, List.append_nil, Nat.zero_add, Nat.reduceAdd, Sl.v] at h)
                | (refine t_stB h 10 rfl (by simp [setL]) (by simp [Value.oneCell']) fun w h => ?_; try dsimp only [List.set, setL, List.eraseIdx, List.cons_append, List.nil_append, List.append_nil, Nat.zero_add, Nat.reduceAdd, Sl.v] at h)
                | (refine t_stB h 11 rfl (by simp [setL]) (by simp [Value.oneCell']) fun w h => ?_; try dsimp only [List.set, setL, List.eraseIdx, List.cons_append, List.nil_append, List.append_nil, Nat.zero_add, Nat.reduceAdd, Sl.v] at h)
                | refine t_newB h (by simp [Value.oneCell']) fun w b h hb => ?_
                | refine t_nil ?_
                | refine t_true rfl ?_
                | refine t_false rfl ?_
                | refine t_yes rfl ?_
                | refine t_nyes rfl ?_
                | refine t_no (by decide) ?_
                | refine t_nno (by decide) ?_
                | refine t_need (by decide) ?_
                | refine t_both ?_ ?_
                | ((first | refine t_fnE (drvq_Held_fn hk64 hklen) h (by repeat (first | exact Sub.nil _ | apply Sub.c0 | apply Sub.c1 | apply Sub.c2 | apply Sub.c3 | apply Sub.c4 | apply Sub.c5 | apply Sub.c6 | apply Sub.c7 | apply Sub.c8 | apply Sub.c9 | apply Sub.c10 | apply Sub.c11 | exact Sub.refl _)) noRo ?_ | refine t_fnnE (drvq_Held_fn hk64 hklen) h (by repeat (first | exact Sub.nil _ | apply Sub.c0 | apply Sub.c1 | apply Sub.c2 | apply Sub.c3 | apply Sub.c4 | apply Sub.c5 | apply Sub.c6 | apply Sub.c7 | apply Sub.c8 | apply Sub.c9 | apply Sub.c10 | apply Sub.c11 | exact Sub.refl _)) noRo ?_); rintro s2 post ⟨hs2, rfl⟩ w h; try dsimp only [List.set, setL, List.eraseIdx, List.cons_append, List.nil_append, List.append_nil, Nat.zero_add, Nat.reduceAdd, Sl.v] at h)
                | ((first | refine t_fn (Same_own _ _ (by rw [keysOf_length]; exact hklen)) h (by repeat (first | exact Sub.nil _ | apply Sub.c0 | apply Sub.c1 | apply Sub.c2 | apply Sub.c3 | apply Sub.c4 | apply Sub.c5 | apply Sub.c6 | apply Sub.c7 | apply Sub.c8 | apply Sub.c9 | apply Sub.c10 | apply Sub.c11 | exact Sub.refl _)) noRo fun w h => ?_ | refine t_fnn (Same_own _ _ (by rw [keysOf_length]; exact hklen)) h (by repeat (first | exact Sub.nil _ | apply Sub.c0 | apply Sub.c1 | apply Sub.c2 | apply Sub.c3 | apply Sub.c4 | apply Sub.c5 | apply Sub.c6 | apply Sub.c7 | apply Sub.c8 | apply Sub.c9 | apply Sub.c10 | apply Sub.c11 | exact Sub.refl _)) noRo fun w h => ?_); try dsimp only [List.set, setL, List.eraseIdx, List.cons_append, List.nil_append, List.append_nil, Nat.zero_add, Nat.reduceAdd, Sl.v] at h)
                | ((first | refine t_fn (drvq_Back_fn) h (by repeat (first | exact Sub.nil _ | apply Sub.c0 | apply Sub.c1 | apply Sub.c2 | apply Sub.c3 | apply Sub.c4 | apply Sub.c5 | apply Sub.c6 | apply Sub.c7 | apply Sub.c8 | apply Sub.c9 | apply Sub.c10 | apply Sub.c11 | exact Sub.refl _)) noRo fun w h => ?_ | refine t_fnn (drvq_Back_fn) h (by repeat (first | exact Sub.nil _ | apply Sub.c0 | apply Sub.c1 | apply Sub.c2 | apply Sub.c3 | apply Sub.c4 | apply Sub.c5 | apply Sub.c6 | apply Sub.c7 | apply Sub.c8 | apply Sub.c9 | apply Sub.c10 | apply Sub.c11 | exact Sub.refl _)) noRo fun w h => ?_); try dsimp only [List.set, setL, List.eraseIdx, List.cons_append, List.nil_append, List.append_nil, Nat.zero_add, Nat.reduceAdd, Sl.v] at h)
                | refine t_neS (l := [.I, .bool]) (q.back.at_, q.back.wrap, ()) (q.back.at_, q.back.wrap, ()) flatSpot (t_false (by simp [eqDL, eqSc]) ?_)
                | ((first | refine t_fn (gmem_Image_fn) h (by repeat (first | exact Sub.nil _ | apply Sub.c0 | apply Sub.c1 | apply Sub.c2 | apply Sub.c3 | apply Sub.c4 | apply Sub.c5 | apply Sub.c6 | apply Sub.c7 | apply Sub.c8 | apply Sub.c9 | apply Sub.c10 | apply Sub.c11 | exact Sub.refl _)) noRo fun w h => ?_ | refine t_fnn (gmem_Image_fn) h (by repeat (first | exact Sub.nil _ | apply Sub.c0 | apply Sub.c1 | apply Sub.c2 | apply Sub.c3 | apply Sub.c4 | apply Sub.c5 | apply Sub.c6 | apply Sub.c7 | apply Sub.c8 | apply Sub.c9 | apply Sub.c10 | apply Sub.c11 | exact Sub.refl _)) noRo fun w h => ?_); try dsimp only [List.set, setL, List.eraseIdx, List.cons_append, List.nil_append, List.append_nil, Nat.zero_add, Nat.reduceAdd, Sl.v] at h)
                | exact t_next (next2 _ _ _ hq hy2 hl (h.weak (by repeat (first | exact Weak.refl _ | apply Weak.c0 | apply Weak.c1 | apply Weak.c2 | apply Weak.c3 | apply Weak.c4 | apply Weak.c5 | apply Weak.c6 | apply Weak.c7 | apply Weak.c8 | apply Weak.c9 | apply Weak.c10 | apply Weak.c11 | apply Weak.drop)))))
              try dsimp only [List.set, setL, List.eraseIdx, List.cons_append, List.nil_append, List.append_nil, Nat.zero_add, Nat.reduceAdd, Sl.v] at h
              )
        refine t_if (fun k2 => ?_) (fun k2 => ?_)
        · repeat (first
            | refine t_tickS h fun w h => ?_
            | refine t_keepN ?_
            | refine t_ldB h 0 rfl rfl ?_
            | refine t_ldB h 1 rfl rfl ?_
            | refine t_ldB h 2 rfl rfl ?_
            | refine t_ldB h 3 rfl rfl ?_
            | refine t_ldB h 4 rfl rfl ?_
            | refine t_ldB h 5 rfl rfl ?_
            | refine t_ldB h 6 rfl rfl ?_
            | refine t_ldB h 7 rfl rfl ?_
            | refine t_ldB h 8 rfl rfl ?_
            | refine t_ldB h 9 rfl rfl ?_
            | refine t_ldO h 0 rfl rfl rfl ?_
            | refine t_ldO h 1 rfl rfl rfl ?_
            | refine t_ldO h 2 rfl rfl rfl ?_
            | refine t_ldO h 3 rfl rfl rfl ?_
            | refine t_ldO h 4 rfl rfl rfl ?_
            | refine t_ldO h 5 rfl rfl rfl ?_
            | refine t_ldO h 6 rfl rfl rfl ?_
            | refine t_ldO h 7 rfl rfl rfl ?_
            | refine t_ldO h 8 rfl rfl rfl ?_
            | refine t_ldO h 9 rfl rfl rfl ?_
            | refine t_keepB h 0 rfl rfl ?_
            | refine t_keepB h 1 rfl rfl ?_
            | refine t_keepB h 2 rfl rfl ?_
            | refine t_keepB h 3 rfl rfl ?_
            | refine t_keepB h 4 rfl rfl ?_
            | refine t_keepB h 5 rfl rfl ?_
            | refine t_keepB h 6 rfl rfl ?_
            | refine t_keepB h 7 rfl rfl ?_
            | refine t_keepB h 8 rfl rfl ?_
            | refine t_keepB h 9 rfl rfl ?_
            | (refine t_stB h 0 rfl (by simp [setL]) (by simp [Value.oneCell']) fun w h => ?_; try dsimp only [List.set, setL, List.eraseIdx, List.cons_append, List.nil_append, List.append_nil, Nat.zero_add, Nat.reduceAdd, Sl.v] at h)
            | (refine t_stB h 1 rfl (by simp [setL]) (by simp [Value.oneCell']) fun w h => ?_; try dsimp only [List.set, setL, List.eraseIdx, List.cons_append, List.nil_append, List.append_nil, Nat.zero_add, Nat.reduceAdd, Sl.v] at h)
            | (refine t_stB h 2 rfl (by simp [setL]) (by simp [Value.oneCell']) fun w h => ?_; try dsimp only [List.set, setL, List.eraseIdx, List.cons_append, List.nil_append, List.append_nil, Nat.zero_add, Nat.reduceAdd, Sl.v] at h)
            | (refine t_stB h 3 rfl (by simp [setL]) (by simp [Value.oneCell']) fun w h => ?_; try dsimp only [List.set, setL, List.eraseIdx, List.cons_append, List.nil_append, List.append_nil, Nat.zero_add, Nat.reduceAdd, Sl.v] at h)
            | (refine t_stB h 4 rfl (by simp [setL]) (by simp [Value.oneCell']) fun w h => ?_; try dsimp only [List.set, setL, List.eraseIdx, List.cons_append, List.nil_append, List.append_nil, Nat.zero_add, Nat.reduceAdd, Sl.v] at h)
            | (refine t_stB h 5 rfl (by simp [setL]) (by simp [Value.oneCell']) fun w h => ?_; try dsimp only [List.set, setL, List.eraseIdx, List.cons_append, List.nil_append, List.append_nil, Nat.zero_add, Nat.reduceAdd, Sl.v] at h)
            | (refine t_stB h 6 rfl (by simp [setL]) (by simp [Value.oneCell']) fun w h => ?_; try dsimp only [List.set, setL, List.eraseIdx, List.cons_append, List.nil_append, List.append_nil, Nat.zero_add, Nat.reduceAdd, Sl.v] at h)
            | (refine t_stB h 7 rfl (by simp [setL]) (by simp [Value.oneCell']) fun w h => ?_; try dsimp only [List.set, setL, List.eraseIdx, List.cons_append, List.nil_append, List.append_nil, Nat.zero_add, Nat.reduceAdd, Sl.v] at h)
            | (refine t_stB h 8 rfl (by simp [setL]) (by simp [Value.oneCell']) fun w h => ?_; try dsimp only [List.set, setL, List.eraseIdx, List.cons_append, List.nil_append, List.append_nil, Nat.zero_add, Nat.reduceAdd, Sl.v] at h)
            | (refine t_stB h 9 rfl (by simp [setL]) (by simp [Value.oneCell']) fun w h => ?_; try dsimp only [List.set, setL, List.eraseIdx, List.cons_append, List.nil_append, List.append_nil, Nat.zero_add, Nat.reduceAdd, Sl.v] at h)
            | refine t_newB h (by simp [Value.oneCell']) fun w b h hb => ?_
            | refine t_nil ?_
            | refine t_true rfl ?_
            | refine t_false rfl ?_
            | refine t_yes rfl ?_
            | refine t_nyes rfl ?_
            | refine t_no (by decide) ?_
            | refine t_nno (by decide) ?_
            | refine t_need (by decide) ?_)
          try dsimp only [List.set, setL, List.eraseIdx, List.cons_append, List.nil_append, List.append_nil, Nat.zero_add, Nat.reduceAdd, Sl.v] at h
          first | refine t_fn (used_con o q.back.wrap) h (by repeat (first | exact Sub.nil _ | apply Sub.c0 | apply Sub.c1 | apply Sub.c2 | apply Sub.c3 | apply Sub.c4 | apply Sub.c5 | apply Sub.c6 | apply Sub.c7 | apply Sub.c8 | apply Sub.c9 | apply Sub.c10 | apply Sub.c11 | exact Sub.refl _)) noRo fun w h => ?_ | refine t_fnn (used_con o q.back.wrap) h (by repeat (first | exact Sub.nil _ | apply Sub.c0 | apply Sub.c1 | apply Sub.c2 | apply Sub.c3 | apply Sub.c4 | apply Sub.c5 | apply Sub.c6 | apply Sub.c7 | apply Sub.c8 | apply Sub.c9 | apply Sub.c10 | apply Sub.c11 | exact Sub.refl _)) noRo fun w h => ?_
          try dsimp only [List.set, setL, List.eraseIdx, List.cons_append, List.nil_append, List.append_nil, Nat.zero_add, Nat.reduceAdd, Sl.v] at h
          repeat (first
            | refine t_tickS h fun w h => ?_
            | refine t_keepN ?_
            | refine t_ldB h 0 rfl rfl ?_
            | refine t_ldB h 1 rfl rfl ?_
            | refine t_ldB h 2 rfl rfl ?_
            | refine t_ldB h 3 rfl rfl ?_
            | refine t_ldB h 4 rfl rfl ?_
            | refine t_ldB h 5 rfl rfl ?_
            | refine t_ldB h 6 rfl rfl ?_
            | refine t_ldB h 7 rfl rfl ?_
            | refine t_ldB h 8 rfl rfl ?_
            | refine t_ldB h 9 rfl rfl ?_
            | refine t_ldO h 0 rfl rfl rfl ?_
            | refine t_ldO h 1 rfl rfl rfl ?_
            | refine t_ldO h 2 rfl rfl rfl ?_
            | refine t_ldO h 3 rfl rfl rfl ?_
            | refine t_ldO h 4 rfl rfl rfl ?_
            | refine t_ldO h 5 rfl rfl rfl ?_
            | refine t_ldO h 6 rfl rfl rfl ?_
            | refine t_ldO h 7 rfl rfl rfl ?_
            | refine t_ldO h 8 rfl rfl rfl ?_
            | refine t_ldO h 9 rfl rfl rfl ?_
            | refine t_keepB h 0 rfl rfl ?_
            | refine t_keepB h 1 rfl rfl ?_
            | refine t_keepB h 2 rfl rfl ?_
            | refine t_keepB h 3 rfl rfl ?_
            | refine t_keepB h 4 rfl rfl ?_
            | refine t_keepB h 5 rfl rfl ?_
            | refine t_keepB h 6 rfl rfl ?_
            | refine t_keepB h 7 rfl rfl ?_
            | refine t_keepB h 8 rfl rfl ?_
            | refine t_keepB h 9 rfl rfl ?_
            | (refine t_stB h 0 rfl (by simp [setL]) (by simp [Value.oneCell']) fun w h => ?_; try dsimp only [List.set, setL, List.eraseIdx, List.cons_append, List.nil_append, List.append_nil, Nat.zero_add, Nat.reduceAdd, Sl.v] at h)
            | (refine t_stB h 1 rfl (by simp [setL]) (by simp [Value.oneCell']) fun w h => ?_; try dsimp only [List.set, setL, List.eraseIdx, List.cons_append, List.nil_append, List.append_nil, Nat.zero_add, Nat.reduceAdd, Sl.v] at h)
            | (refine t_stB h 2 rfl (by simp [setL]) (by simp [Value.oneCell']) fun w h => ?_; try dsimp only [List.set, setL, List.eraseIdx, List.cons_append, List.nil_append, List.append_nil, Nat.zero_add, Nat.reduceAdd, Sl.v] at h)
            | (refine t_stB h 3 rfl (by simp [setL]) (by simp [Value.oneCell']) fun w h => ?_; try dsimp only [List.set, setL, List.eraseIdx, List.cons_append, List.nil_append, List.append_nil, Nat.zero_add, Nat.reduceAdd, Sl.v] at h)
            | (refine t_stB h 4 rfl (by simp [setL]) (by simp [Value.oneCell']) fun w h => ?_; try dsimp only [List.set, setL, List.eraseIdx, List.cons_append, List.nil_append, List.append_nil, Nat.zero_add, Nat.reduceAdd, Sl.v] at h)
            | (refine t_stB h 5 rfl (by simp [setL]) (by simp [Value.oneCell']) fun w h => ?_; try dsimp only [List.set, setL, List.eraseIdx, List.cons_append, List.nil_append, List.append_nil, Nat.zero_add, Nat.reduceAdd, Sl.v] at h)
            | (refine t_stB h 6 rfl (by simp [setL]) (by simp [Value.oneCell']) fun w h => ?_; try dsimp only [List.set, setL, List.eraseIdx, List.cons_append, List.nil_append, List.append_nil, Nat.zero_add, Nat.reduceAdd, Sl.v] at h)
            | (refine t_stB h 7 rfl (by simp [setL]) (by simp [Value.oneCell']) fun w h => ?_; try dsimp only [List.set, setL, List.eraseIdx, List.cons_append, List.nil_append, List.append_nil, Nat.zero_add, Nat.reduceAdd, Sl.v] at h)
            | (refine t_stB h 8 rfl (by simp [setL]) (by simp [Value.oneCell']) fun w h => ?_; try dsimp only [List.set, setL, List.eraseIdx, List.cons_append, List.nil_append, List.append_nil, Nat.zero_add, Nat.reduceAdd, Sl.v] at h)
            | (refine t_stB h 9 rfl (by simp [setL]) (by simp [Value.oneCell']) fun w h => ?_; try dsimp only [List.set, setL, List.eraseIdx, List.cons_append, List.nil_append, List.append_nil, Nat.zero_add, Nat.reduceAdd, Sl.v] at h)
            | refine t_newB h (by simp [Value.oneCell']) fun w b h hb => ?_
            | refine t_nil ?_
            | refine t_true rfl ?_
            | refine t_false rfl ?_
            | refine t_yes rfl ?_
            | refine t_nyes rfl ?_
            | refine t_no (by decide) ?_
            | refine t_nno (by decide) ?_
            | refine t_need (by decide) ?_)
          try dsimp only [List.set, setL, List.eraseIdx, List.cons_append, List.nil_append, List.append_nil, Nat.zero_add, Nat.reduceAdd, Sl.v] at h
          have hback := hok.back
          have hbk : 0 ≤ q.back.at_ ∧ q.back.at_ < q.l.size := hback
          have hring := hok.ring
          have hsize := hok.size
          rw [hy2] at hbk hring hsize
          rw [w64 (n := 16 * q.back.at_) (by omega), w64 (n := y.ring + 16 * q.back.at_) (by omega), w64 (n := y.ring + 16 * q.back.at_ + 8) (by omega)]
          first | refine t_fn (gmem_Write_fn (y.ring + 16 * q.back.at_ + 8) (M.usedB o.n o.id (q.back.wrap == o.wrap)) (by unfold i64R; omega) (by rw [usedB_length]; decide)) h (by repeat (first | exact Sub.nil _ | apply Sub.c0 | apply Sub.c1 | apply Sub.c2 | apply Sub.c3 | apply Sub.c4 | apply Sub.c5 | apply Sub.c6 | apply Sub.c7 | apply Sub.c8 | apply Sub.c9 | apply Sub.c10 | apply Sub.c11 | exact Sub.refl _)) noRo fun w h => ?_ | refine t_fnn (gmem_Write_fn (y.ring + 16 * q.back.at_ + 8) (M.usedB o.n o.id (q.back.wrap == o.wrap)) (by unfold i64R; omega) (by rw [usedB_length]; decide)) h (by repeat (first | exact Sub.nil _ | apply Sub.c0 | apply Sub.c1 | apply Sub.c2 | apply Sub.c3 | apply Sub.c4 | apply Sub.c5 | apply Sub.c6 | apply Sub.c7 | apply Sub.c8 | apply Sub.c9 | apply Sub.c10 | apply Sub.c11 | exact Sub.refl _)) noRo fun w h => ?_
          try dsimp only [List.set, setL, List.eraseIdx, List.cons_append, List.nil_append, List.append_nil, Nat.zero_add, Nat.reduceAdd, Sl.v] at h
          exact t_next (next _ _ (M.writeM l (y.ring + 16 * q.back.at_ + 8) (M.usedB o.n o.id (q.back.wrap == o.wrap))) hq hy2 (by rw [writeM_length]; exact hl) (h.weak (by repeat (first | exact Weak.refl _ | apply Weak.c0 | apply Weak.c1 | apply Weak.c2 | apply Weak.c3 | apply Weak.c4 | apply Weak.c5 | apply Weak.c6 | apply Weak.c7 | apply Weak.c8 | apply Weak.c9 | apply Weak.c10 | apply Weak.c11 | apply Weak.drop))))
        refine t_if (fun k3 => ?_) (fun k3 => ?_)
        · repeat (first
            | refine t_tickS h fun w h => ?_
            | refine t_keepN ?_
            | refine t_ldB h 0 rfl rfl ?_
            | refine t_ldB h 1 rfl rfl ?_
            | refine t_ldB h 2 rfl rfl ?_
            | refine t_ldB h 3 rfl rfl ?_
            | refine t_ldB h 4 rfl rfl ?_
            | refine t_ldB h 5 rfl rfl ?_
            | refine t_ldB h 6 rfl rfl ?_
            | refine t_ldB h 7 rfl rfl ?_
            | refine t_ldB h 8 rfl rfl ?_
            | refine t_ldB h 9 rfl rfl ?_
            | refine t_ldO h 0 rfl rfl rfl ?_
            | refine t_ldO h 1 rfl rfl rfl ?_
            | refine t_ldO h 2 rfl rfl rfl ?_
            | refine t_ldO h 3 rfl rfl rfl ?_
            | refine t_ldO h 4 rfl rfl rfl ?_
            | refine t_ldO h 5 rfl rfl rfl ?_
            | refine t_ldO h 6 rfl rfl rfl ?_
            | refine t_ldO h 7 rfl rfl rfl ?_
            | refine t_ldO h 8 rfl rfl rfl ?_
            | refine t_ldO h 9 rfl rfl rfl ?_
            | refine t_keepB h 0 rfl rfl ?_
            | refine t_keepB h 1 rfl rfl ?_
            | refine t_keepB h 2 rfl rfl ?_
            | refine t_keepB h 3 rfl rfl ?_
            | refine t_keepB h 4 rfl rfl ?_
            | refine t_keepB h 5 rfl rfl ?_
            | refine t_keepB h 6 rfl rfl ?_
            | refine t_keepB h 7 rfl rfl ?_
            | refine t_keepB h 8 rfl rfl ?_
            | refine t_keepB h 9 rfl rfl ?_
            | (refine t_stB h 0 rfl (by simp [setL]) (by simp [Value.oneCell']) fun w h => ?_; try dsimp only [List.set, setL, List.eraseIdx, List.cons_append, List.nil_append, List.append_nil, Nat.zero_add, Nat.reduceAdd, Sl.v] at h)
            | (refine t_stB h 1 rfl (by simp [setL]) (by simp [Value.oneCell']) fun w h => ?_; try dsimp only [List.set, setL, List.eraseIdx, List.cons_append, List.nil_append, List.append_nil, Nat.zero_add, Nat.reduceAdd, Sl.v] at h)
            | (refine t_stB h 2 rfl (by simp [setL]) (by simp [Value.oneCell']) fun w h => ?_; try dsimp only [List.set, setL, List.eraseIdx, List.cons_append, List.nil_append, List.append_nil, Nat.zero_add, Nat.reduceAdd, Sl.v] at h)
            | (refine t_stB h 3 rfl (by simp [setL]) (by simp [Value.oneCell']) fun w h => ?_; try dsimp only [List.set, setL, List.eraseIdx, List.cons_append, List.nil_append, List.append_nil, Nat.zero_add, Nat.reduceAdd, Sl.v] at h)
            | (refine t_stB h 4 rfl (by simp [setL]) (by simp [Value.oneCell']) fun w h => ?_; try dsimp only [List.set, setL, List.eraseIdx, List.cons_append, List.nil_append, List.append_nil, Nat.zero_add, Nat.reduceAdd, Sl.v] at h)
            | (refine t_stB h 5 rfl (by simp [setL]) (by simp [Value.oneCell']) fun w h => ?_; try dsimp only [List.set, setL, List.eraseIdx, List.cons_append, List.nil_append, List.append_nil, Nat.zero_add, Nat.reduceAdd, Sl.v] at h)
            | (refine t_stB h 6 rfl (by simp [setL]) (by simp [Value.oneCell']) fun w h => ?_; try dsimp only [List.set, setL, List.eraseIdx, List.cons_append, List.nil_append, List.append_nil, Nat.zero_add, Nat.reduceAdd, Sl.v] at h)
            | (refine t_stB h 7 rfl (by simp [setL]) (by simp [Value.oneCell']) fun w h => ?_; try dsimp only [List.set, setL, List.eraseIdx, List.cons_append, List.nil_append, List.append_nil, Nat.zero_add, Nat.reduceAdd, Sl.v] at h)
            | (refine t_stB h 8 rfl (by simp [setL]) (by simp [Value.oneCell']) fun w h => ?_; try dsimp only [List.set, setL, List.eraseIdx, List.cons_append, List.nil_append, List.append_nil, Nat.zero_add, Nat.reduceAdd, Sl.v] at h)
            | (refine t_stB h 9 rfl (by simp [setL]) (by simp [Value.oneCell']) fun w h => ?_; try dsimp only [List.set, setL, List.eraseIdx, List.cons_append, List.nil_append, List.append_nil, Nat.zero_add, Nat.reduceAdd, Sl.v] at h)
            | refine t_newB h (by simp [Value.oneCell']) fun w b h hb => ?_
            | refine t_nil ?_
            | refine t_true rfl ?_
            | refine t_false rfl ?_
            | refine t_yes rfl ?_
            | refine t_nyes rfl ?_
            | refine t_no (by decide) ?_
            | refine t_nno (by decide) ?_
            | refine t_need (by decide) ?_)
          try dsimp only [List.set, setL, List.eraseIdx, List.cons_append, List.nil_append, List.append_nil, Nat.zero_add, Nat.reduceAdd, Sl.v] at h
          have hb := band_le o.at_ 4095 (by decide) (by decide)
          have hi2 : 0 ≤ imn (o.s.length : Int) 200 ∧ imn (o.s.length : Int) 200 ≤ o.s.length ∧ imn (o.s.length : Int) 200 ≤ 200 := by unfold imn; split <;> omega
          rw [mkB_size]
          refine t_need (by omega) ?_
          rw [mkB_extract]
          generalize hx3 : (List.take (imn (o.s.length : Int) 200).toNat o.s).drop 0 = t3
          have hx4 : t3.length ≤ 140737488355328 := by rw [← hx3]; simp; omega
          first | refine t_fn (gmem_Write_fn (band .i64 o.at_ 4095) t3 (by unfold i64R; omega) hx4) h (by repeat (first | exact Sub.nil _ | apply Sub.c0 | apply Sub.c1 | apply Sub.c2 | apply Sub.c3 | apply Sub.c4 | apply Sub.c5 | apply Sub.c6 | apply Sub.c7 | apply Sub.c8 | apply Sub.c9 | apply Sub.c10 | apply Sub.c11 | exact Sub.refl _)) noRo fun w h => ?_ | refine t_fnn (gmem_Write_fn (band .i64 o.at_ 4095) t3 (by unfold i64R; omega) hx4) h (by repeat (first | exact Sub.nil _ | apply Sub.c0 | apply Sub.c1 | apply Sub.c2 | apply Sub.c3 | apply Sub.c4 | apply Sub.c5 | apply Sub.c6 | apply Sub.c7 | apply Sub.c8 | apply Sub.c9 | apply Sub.c10 | apply Sub.c11 | exact Sub.refl _)) noRo fun w h => ?_
          try dsimp only [List.set, setL, List.eraseIdx, List.cons_append, List.nil_append, List.append_nil, Nat.zero_add, Nat.reduceAdd, Sl.v] at h
          exact t_next (next _ _ (M.writeM l (band .i64 o.at_ 4095) t3) hq hy2 (by rw [writeM_length]; exact hl) (h.weak (by repeat (first | exact Weak.refl _ | apply Weak.c0 | apply Weak.c1 | apply Weak.c2 | apply Weak.c3 | apply Weak.c4 | apply Weak.c5 | apply Weak.c6 | apply Weak.c7 | apply Weak.c8 | apply Weak.c9 | apply Weak.c10 | apply Weak.c11 | apply Weak.drop))))
        · exact t_next (next _ _ _ hq hy2 hl (h.weak (by repeat (first | exact Weak.refl _ | apply Weak.c0 | apply Weak.c1 | apply Weak.c2 | apply Weak.c3 | apply Weak.c4 | apply Weak.c5 | apply Weak.c6 | apply Weak.c7 | apply Weak.c8 | apply Weak.c9 | apply Weak.c10 | apply Weak.c11 | apply Weak.drop))))
      · first | refine t_fn (fixed15) h (by repeat (first | exact Sub.nil _ | apply Sub.c0 | apply Sub.c1 | apply Sub.c2 | apply Sub.c3 | apply Sub.c4 | apply Sub.c5 | apply Sub.c6 | apply Sub.c7 | apply Sub.c8 | apply Sub.c9 | apply Sub.c10 | apply Sub.c11 | exact Sub.refl _)) noRo fun w h => ?_ | refine t_fnn (fixed15) h (by repeat (first | exact Sub.nil _ | apply Sub.c0 | apply Sub.c1 | apply Sub.c2 | apply Sub.c3 | apply Sub.c4 | apply Sub.c5 | apply Sub.c6 | apply Sub.c7 | apply Sub.c8 | apply Sub.c9 | apply Sub.c10 | apply Sub.c11 | exact Sub.refl _)) noRo fun w h => ?_
        try dsimp only [List.set, setL, List.eraseIdx, List.cons_append, List.nil_append, List.append_nil, Nat.zero_add, Nat.reduceAdd, Sl.v] at h
        exact t_ret ⟨rfl, h.weak (by repeat (first | exact Weak.refl _ | apply Weak.c0 | apply Weak.c1 | apply Weak.c2 | apply Weak.c3 | apply Weak.c4 | apply Weak.c5 | apply Weak.c6 | apply Weak.c7 | apply Weak.c8 | apply Weak.c9 | apply Weak.c10 | apply Weak.c11 | apply Weak.drop))⟩
    · first | refine t_fn (fixed15) h (by repeat (first | exact Sub.nil _ | apply Sub.c0 | apply Sub.c1 | apply Sub.c2 | apply Sub.c3 | apply Sub.c4 | apply Sub.c5 | apply Sub.c6 | apply Sub.c7 | apply Sub.c8 | apply Sub.c9 | apply Sub.c10 | apply Sub.c11 | exact Sub.refl _)) noRo fun w h => ?_ | refine t_fnn (fixed15) h (by repeat (first | exact Sub.nil _ | apply Sub.c0 | apply Sub.c1 | apply Sub.c2 | apply Sub.c3 | apply Sub.c4 | apply Sub.c5 | apply Sub.c6 | apply Sub.c7 | apply Sub.c8 | apply Sub.c9 | apply Sub.c10 | apply Sub.c11 | exact Sub.refl _)) noRo fun w h => ?_
      try dsimp only [List.set, setL, List.eraseIdx, List.cons_append, List.nil_append, List.append_nil, Nat.zero_add, Nat.reduceAdd, Sl.v] at h
      exact t_ret ⟨rfl, h.weak (by repeat (first | exact Weak.refl _ | apply Weak.c0 | apply Weak.c1 | apply Weak.c2 | apply Weak.c3 | apply Weak.c4 | apply Weak.c5 | apply Weak.c6 | apply Weak.c7 | apply Weak.c8 | apply Weak.c9 | apply Weak.c10 | apply Weak.c11 | apply Weak.drop))⟩
  · first | refine t_fnE (laid_no bytes y sc hy.1 hy.2.1 hy.2.2.1 hy.2.2.2 hc) h (by repeat (first | exact Sub.nil _ | apply Sub.c0 | apply Sub.c1 | apply Sub.c2 | apply Sub.c3 | apply Sub.c4 | apply Sub.c5 | apply Sub.c6 | apply Sub.c7 | apply Sub.c8 | apply Sub.c9 | apply Sub.c10 | apply Sub.c11 | exact Sub.refl _)) noRo ?_ | refine t_fnnE (laid_no bytes y sc hy.1 hy.2.1 hy.2.2.1 hy.2.2.2 hc) h (by repeat (first | exact Sub.nil _ | apply Sub.c0 | apply Sub.c1 | apply Sub.c2 | apply Sub.c3 | apply Sub.c4 | apply Sub.c5 | apply Sub.c6 | apply Sub.c7 | apply Sub.c8 | apply Sub.c9 | apply Sub.c10 | apply Sub.c11 | exact Sub.refl _)) noRo ?_
    rintro _ _ ⟨mb, kb, rfl, rfl⟩ w h
    try dsimp only [List.set, setL, List.eraseIdx, List.cons_append, List.nil_append, List.append_nil, Nat.zero_add, Nat.reduceAdd, Sl.v] at h
    repeat (first
      | refine t_tickS h fun w h => ?_
      | refine t_keepN ?_
      | refine t_ldB h 0 rfl rfl ?_
      | refine t_ldB h 1 rfl rfl ?_
      | refine t_ldB h 2 rfl rfl ?_
      | refine t_ldB h 3 rfl rfl ?_
      | refine t_ldB h 4 rfl rfl ?_
      | refine t_ldB h 5 rfl rfl ?_
      | refine t_ldB h 6 rfl rfl ?_
      | refine t_ldB h 7 rfl rfl ?_
      | refine t_ldB h 8 rfl rfl ?_
      | refine t_ldB h 9 rfl rfl ?_
      | refine t_ldO h 0 rfl rfl rfl ?_
      | refine t_ldO h 1 rfl rfl rfl ?_
      | refine t_ldO h 2 rfl rfl rfl ?_
      | refine t_ldO h 3 rfl rfl rfl ?_
      | refine t_ldO h 4 rfl rfl rfl ?_
      | refine t_ldO h 5 rfl rfl rfl ?_
      | refine t_ldO h 6 rfl rfl rfl ?_
      | refine t_ldO h 7 rfl rfl rfl ?_
      | refine t_ldO h 8 rfl rfl rfl ?_
      | refine t_ldO h 9 rfl rfl rfl ?_
      | refine t_keepB h 0 rfl rfl ?_
      | refine t_keepB h 1 rfl rfl ?_
      | refine t_keepB h 2 rfl rfl ?_
      | refine t_keepB h 3 rfl rfl ?_
      | refine t_keepB h 4 rfl rfl ?_
      | refine t_keepB h 5 rfl rfl ?_
      | refine t_keepB h 6 rfl rfl ?_
      | refine t_keepB h 7 rfl rfl ?_
      | refine t_keepB h 8 rfl rfl ?_
      | refine t_keepB h 9 rfl rfl ?_
      | (refine t_stB h 0 rfl (by simp [setL]) (by simp [Value.oneCell']) fun w h => ?_; try dsimp only [List.set, setL, List.eraseIdx, List.cons_append, List.nil_append, List.append_nil, Nat.zero_add, Nat.reduceAdd, Sl.v] at h)
      | (refine t_stB h 1 rfl (by simp [setL]) (by simp [Value.oneCell']) fun w h => ?_; try dsimp only [List.set, setL, List.eraseIdx, List.cons_append, List.nil_append, List.append_nil, Nat.zero_add, Nat.reduceAdd, Sl.v] at h)
      | (refine t_stB h 2 rfl (by simp [setL]) (by simp [Value.oneCell']) fun w h => ?_; try dsimp only [List.set, setL, List.eraseIdx, List.cons_append, List.nil_append, List.append_nil, Nat.zero_add, Nat.reduceAdd, Sl.v] at h)
      | (refine t_stB h 3 rfl (by simp [setL]) (by simp [Value.oneCell']) fun w h => ?_; try dsimp only [List.set, setL, List.eraseIdx, List.cons_append, List.nil_append, List.append_nil, Nat.zero_add, Nat.reduceAdd, Sl.v] at h)
      | (refine t_stB h 4 rfl (by simp [setL]) (by simp [Value.oneCell']) fun w h => ?_; try dsimp only [List.set, setL, List.eraseIdx, List.cons_append, List.nil_append, List.append_nil, Nat.zero_add, Nat.reduceAdd, Sl.v] at h)
      | (refine t_stB h 5 rfl (by simp [setL]) (by simp [Value.oneCell']) fun w h => ?_; try dsimp only [List.set, setL, List.eraseIdx, List.cons_append, List.nil_append, List.append_nil, Nat.zero_add, Nat.reduceAdd, Sl.v] at h)
      | (refine t_stB h 6 rfl (by simp [setL]) (by simp [Value.oneCell']) fun w h => ?_; try dsimp only [List.set, setL, List.eraseIdx, List.cons_append, List.nil_append, List.append_nil, Nat.zero_add, Nat.reduceAdd, Sl.v] at h)
      | (refine t_stB h 7 rfl (by simp [setL]) (by simp [Value.oneCell']) fun w h => ?_; try dsimp only [List.set, setL, List.eraseIdx, List.cons_append, List.nil_append, List.append_nil, Nat.zero_add, Nat.reduceAdd, Sl.v] at h)
      | (refine t_stB h 8 rfl (by simp [setL]) (by simp [Value.oneCell']) fun w h => ?_; try dsimp only [List.set, setL, List.eraseIdx, List.cons_append, List.nil_append, List.append_nil, Nat.zero_add, Nat.reduceAdd, Sl.v] at h)
      | (refine t_stB h 9 rfl (by simp [setL]) (by simp [Value.oneCell']) fun w h => ?_; try dsimp only [List.set, setL, List.eraseIdx, List.cons_append, List.nil_append, List.append_nil, Nat.zero_add, Nat.reduceAdd, Sl.v] at h)
      | refine t_newB h (by simp [Value.oneCell']) fun w b h hb => ?_
      | refine t_nil ?_
      | refine t_true rfl ?_
      | refine t_false rfl ?_
      | refine t_yes rfl ?_
      | refine t_nyes rfl ?_
      | refine t_no (by decide) ?_
      | refine t_nno (by decide) ?_
      | refine t_need (by decide) ?_)
    try dsimp only [List.set, setL, List.eraseIdx, List.cons_append, List.nil_append, List.append_nil, Nat.zero_add, Nat.reduceAdd, Sl.v] at h
    refine t_loop (fun m st w' => m = 0 ∧ st = ((0 : Int), ()) ∧ St w0 W w' B) 0 ⟨rfl, rfl, h.weak (by repeat (first | exact Weak.refl _ | apply Weak.c0 | apply Weak.c1 | apply Weak.c2 | apply Weak.c3 | apply Weak.c4 | apply Weak.c5 | apply Weak.c6 | apply Weak.c7 | apply Weak.c8 | apply Weak.c9 | apply Weak.c10 | apply Weak.c11 | apply Weak.drop))⟩ ?_
    rintro m st w ⟨rfl, rfl, h⟩ Ks hJ _
    refine t_false rfl ?_
    first | refine t_fn (fixed15) h (by repeat (first | exact Sub.nil _ | apply Sub.c0 | apply Sub.c1 | apply Sub.c2 | apply Sub.c3 | apply Sub.c4 | apply Sub.c5 | apply Sub.c6 | apply Sub.c7 | apply Sub.c8 | apply Sub.c9 | apply Sub.c10 | apply Sub.c11 | exact Sub.refl _)) noRo fun w h => ?_ | refine t_fnn (fixed15) h (by repeat (first | exact Sub.nil _ | apply Sub.c0 | apply Sub.c1 | apply Sub.c2 | apply Sub.c3 | apply Sub.c4 | apply Sub.c5 | apply Sub.c6 | apply Sub.c7 | apply Sub.c8 | apply Sub.c9 | apply Sub.c10 | apply Sub.c11 | exact Sub.refl _)) noRo fun w h => ?_
    try dsimp only [List.set, setL, List.eraseIdx, List.cons_append, List.nil_append, List.append_nil, Nat.zero_add, Nat.reduceAdd, Sl.v] at h
    exact t_ret ⟨rfl, h.weak (by repeat (first | exact Weak.refl _ | apply Weak.c0 | apply Weak.c1 | apply Weak.c2 | apply Weak.c3 | apply Weak.c4 | apply Weak.c5 | apply Weak.c6 | apply Weak.c7 | apply Weak.c8 | apply Weak.c9 | apply Weak.c10 | apply Weak.c11 | apply Weak.drop))⟩
end Go.Proofs.Ythfcneahnldgnaa
