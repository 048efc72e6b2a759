/- The statement DrvqDoes, walked. -/
import Derived.Test.YthfcneahnldgnaaGreatSame15
import Derived.Test.YthfcneahnldgnaaGreatArg15
namespace Go.Proofs.YthfcneahnldgnaaGreat
open Go Vk
set_option linter.unusedSimpArgs false
set_option linter.unusedVariables false
structure DoesOk (y : M.Lay) (q : M.DQ) (l : List UInt8) (since : Int) (k : Nat) : Prop where
  inv : q.Inv
  lay : q.l = y
  chk : M.layCheck l.length y = 0
  len : l.length ≤ 2048
  lo : 0 ≤ since
  hi : since ≤ 70 * (k : Int)
  eq : q.since = min since (2 * q.l.size)
theorem DoesOk.mem {y : M.Lay} {q : M.DQ} {l l' : List UInt8} {since : Int} {k : Nat} (h : DoesOk y q l since k) (he : l'.length = l.length) : DoesOk y q l' since (k + 1) :=
  ⟨h.inv, h.lay, by rw [he]; exact h.chk, by rw [he]; exact h.len, h.lo, by have := h.hi; omega, h.eq⟩
theorem DoesOk.post {y : M.Lay} {q : M.DQ} {l : List UInt8} {since : Int} {k : Nat} (h : DoesOk y q l since k) (ps : List M.Part) (hp : ps.length ≤ 70) : DoesOk y (M.postQ1 l q ps) (M.postM1 l q ps) (if M.postE l q ps = 0 then since + ps.length else since) (k + 1) := by
  obtain ⟨h1, h2, h3, h4, h5, h6, h7⟩ := h
  have hf := h1.ok.size
  refine ⟨postQ1_inv h1, ?_, by rw [postM1_length]; exact h3, by rw [postM1_length]; exact h4, by split <;> omega, by split <;> omega, ?_⟩
  · unfold M.postQ1; split <;> exact h2
  · unfold M.postQ1
    split
    · simp only [M.postQ]; omega
    · exact h7
theorem DoesOk.reap {y : M.Lay} {q : M.DQ} {l : List UInt8} {since : Int} {k : Nat} (h : DoesOk y q l since k) : DoesOk y (M.reapQ1 l q) l since (k + 1) := by
  obtain ⟨h1, h2, h3, h4, h5, h6, h7⟩ := h
  refine ⟨reapQ1_inv h1, ?_, h3, h4, h5, by omega, ?_⟩
  · unfold M.reapQ1; split <;> exact h2
  · unfold M.reapQ1; split
    · exact h7
    · exact h7
theorem DoesOk.tell {y : M.Lay} {q : M.DQ} {l : List UInt8} {since : Int} {k : Nat} (h : DoesOk y q l since k) : DoesOk y (M.tellQ q) l 0 (k + 1) := by
  obtain ⟨h1, h2, h3, h4, h5, h6, h7⟩ := h
  have hf := h1.ok.size
  exact ⟨tellQ_inv h1, h2, h3, h4, by omega, by omega, by simp only [M.tellQ]; omega⟩
theorem askM_length (l : List UInt8) (q : M.DQ) (e : M.Ev) : (M.askM l q e).length = l.length := by unfold M.askM; split <;> simp
set_option maxHeartbeats 4000000 in
theorem DrvqDoes_con (bytes : Int) (y : M.Lay) (sc : Sl) (ops : List M.Op) (hy : i64R y.ring ∧ i64R y.size ∧ i64R y.drv ∧ i64R y.dev) (hx : sc.n ≤ 9223372036854775807) :
    Con Tryz.prog (fun w => Rd w sc 10 (opsV ops) ∧ ∀ o ∈ ops, Op.Good w o ∧ i64R o.off ∧ i64R o.fl) 3 #[.agg #[.int .i64 bytes, .int .i64 y.ring, .int .i64 y.size, .int .i64 y.drv, .int .i64 y.dev, .slice sc.a sc.n sc.c]] .B [] true [] := by
  intro w0 W w B hro h
  refine aqueductlaw15_DrvqDoes.calls (bytes, y.ring, y.size, y.drv, y.dev, sc, ()) ?_
  unfold aqueductlaw15_DrvqDoes.T
  have hln : ops.length = sc.n := by have := (hro w h.kept).1.len; rw [opsV_length] at this; omega
  have hL := laidLen_le bytes
  repeat (first
    | refine t_tickS h fun w h => ?_
    | refine t_keepN ?_
    | refine t_ldB h 0 rfl rfl ?_
    | refine t_ldB h 1 rfl rfl ?_
    | refine t_ldB h 2 rfl rfl ?_
    | refine t_ldB h 3 rfl rfl ?_
    | refine t_ldB h 4 rfl rfl ?_
    | refine t_ldB h 5 rfl rfl ?_
    | refine t_ldB h 6 rfl rfl ?_
    | refine t_ldB h 7 rfl rfl ?_
    | refine t_ldB h 8 rfl rfl ?_
    | refine t_ldB h 9 rfl rfl ?_
    | refine t_ldO h 0 rfl rfl rfl ?_
    | refine t_ldO h 1 rfl rfl rfl ?_
    | refine t_ldO h 2 rfl rfl rfl ?_
    | refine t_ldO h 3 rfl rfl rfl ?_
    | refine t_ldO h 4 rfl rfl rfl ?_
    | refine t_ldO h 5 rfl rfl rfl ?_
    | refine t_ldO h 6 rfl rfl rfl ?_
    | refine t_ldO h 7 rfl rfl rfl ?_
    | refine t_ldO h 8 rfl rfl rfl ?_
    | refine t_ldO h 9 rfl rfl rfl ?_
    | refine t_keepB h 0 rfl rfl ?_
    | refine t_keepB h 1 rfl rfl ?_
    | refine t_keepB h 2 rfl rfl ?_
    | refine t_keepB h 3 rfl rfl ?_
    | refine t_keepB h 4 rfl rfl ?_
    | refine t_keepB h 5 rfl rfl ?_
    | refine t_keepB h 6 rfl rfl ?_
    | refine t_keepB h 7 rfl rfl ?_
    | refine t_keepB h 8 rfl rfl ?_
    | refine t_keepB h 9 rfl rfl ?_
    | (refine t_stB h 0 rfl (by simp [setL]) (by simp [Value.oneCell']) fun w h => ?_; try dsimp only [List.set, setL, List.eraseIdx, List.cons_append, List.nil_append, List.append_nil, Nat.zero_add, Nat.reduceAdd, Sl.v] at h)
    | (refine t_stB h 1 rfl (by simp [setL]) (by simp [Value.oneCell']) fun w h => ?_; try dsimp only [List.set, setL, List.eraseIdx, List.cons_append, List.nil_append, List.append_nil, Nat.zero_add, Nat.reduceAdd, Sl.v] at h)
    | (refine t_stB h 2 rfl (by simp [setL]) (by simp [Value.oneCell']) fun w h => ?_; try dsimp only [List.set, setL, List.eraseIdx, List.cons_append, List.nil_append, List.append_nil, Nat.zero_add, Nat.reduceAdd, Sl.v] at h)
    | (refine t_stB h 3 rfl (by simp [setL]) (by simp [Value.oneCell']) fun w h => ?_; try dsimp only [List.set, setL, List.eraseIdx, List.cons_append, List.nil_append, List.append_nil, Nat.zero_add, Nat.reduceAdd, Sl.v] at h)
    | (refine t_stB h 4 rfl (by simp [setL]) (by simp [Value.oneCell']) fun w h => ?_; try dsimp only [List.set, setL, List.eraseIdx, List.cons_append, List.nil_append, List.append_nil, Nat.zero_add, Nat.reduceAdd, Sl.v] at h)
    | (refine t_stB h 5 rfl (by simp [setL]) (by simp [Value.oneCell']) fun w h => ?_; try dsimp only [List.set, setL, List.eraseIdx, List.cons_append, List.nil_append, List.append_nil, Nat.zero_add, Nat.reduceAdd, Sl.v] at h)
    | (refine t_stB h 6 rfl (by simp [setL]) (by simp [Value.oneCell']) fun w h => ?_; try dsimp only [List.set, setL, List.eraseIdx, List.cons_append, List.nil_append, List.append_nil, Nat.zero_add, Nat.reduceAdd, Sl.v] at h)
    | (refine t_stB h 7 rfl (by simp [setL]) (by simp [Value.oneCell']) fun w h => ?_; try dsimp only [List.set, setL, List.eraseIdx, List.cons_append, List.nil_append, List.append_nil, Nat.zero_add, Nat.reduceAdd, Sl.v] at h)
    | (refine t_stB h 8 rfl (by simp [setL]) (by simp [Value.oneCell']) fun w h => ?_; try dsimp only [List.set, setL, List.eraseIdx, List.cons_append, List.nil_append, List.append_nil, Nat.zero_add, Nat.reduceAdd, Sl.v] at h)
    | (refine t_stB h 9 rfl (by simp [setL]) (by simp [Value.oneCell']) fun w h => ?_; try dsimp only [List.set, setL, List.eraseIdx, List.cons_append, List.nil_append, List.append_nil, Nat.zero_add, Nat.reduceAdd, Sl.v] at h)
    | refine t_newB h (by simp [Value.oneCell']) fun w b h hb => ?_
    | refine t_nil ?_
    | refine t_true rfl ?_
    | refine t_false rfl ?_
    | refine t_yes rfl ?_
    | refine t_nyes rfl ?_
    | refine t_no (by decide) ?_
    | refine t_nno (by decide) ?_
    | refine t_need (by decide) ?_)
  try dsimp only [List.set, setL, List.eraseIdx, List.cons_append, List.nil_append, List.append_nil, Nat.zero_add, Nat.reduceAdd, Sl.v] at h
  obtain ⟨wb, hwb⟩ : ∃ x, x = b := ⟨_, rfl⟩
  subst hwb
  by_cases hc : M.layCheck (M.laid0 bytes).length y = 0
  · first | refine t_fnE (laid_ok bytes y sc hy.1 hy.2.1 hy.2.2.1 hy.2.2.2 hc) h (by repeat (first | exact Sub.nil _ | apply Sub.c0 | apply Sub.c1 | apply Sub.c2 | apply Sub.c3 | apply Sub.c4 | apply Sub.c5 | apply Sub.c6 | apply Sub.c7 | apply Sub.c8 | apply Sub.c9 | apply Sub.c10 | apply Sub.c11 | exact Sub.refl _)) noRo ?_ | refine t_fnnE (laid_ok bytes y sc hy.1 hy.2.1 hy.2.2.1 hy.2.2.2 hc) h (by repeat (first | exact Sub.nil _ | apply Sub.c0 | apply Sub.c1 | apply Sub.c2 | apply Sub.c3 | apply Sub.c4 | apply Sub.c5 | apply Sub.c6 | apply Sub.c7 | apply Sub.c8 | apply Sub.c9 | apply Sub.c10 | apply Sub.c11 | exact Sub.refl _)) noRo ?_
    rintro _ _ ⟨mb, kb, qb, xb, rfl, rfl⟩ w h
    try dsimp only [List.set, setL, List.eraseIdx, List.cons_append, List.nil_append, List.append_nil, Nat.zero_add, Nat.reduceAdd, Sl.v] at h
    rw [kOf_new] at h
    repeat (first
      | refine t_tickS h fun w h => ?_
      | refine t_keepN ?_
      | refine t_ldB h 0 rfl rfl ?_
      | refine t_ldB h 1 rfl rfl ?_
      | refine t_ldB h 2 rfl rfl ?_
      | refine t_ldB h 3 rfl rfl ?_
      | refine t_ldB h 4 rfl rfl ?_
      | refine t_ldB h 5 rfl rfl ?_
      | refine t_ldB h 6 rfl rfl ?_
      | refine t_ldB h 7 rfl rfl ?_
      | refine t_ldB h 8 rfl rfl ?_
      | refine t_ldB h 9 rfl rfl ?_
      | refine t_ldO h 0 rfl rfl rfl ?_
      | refine t_ldO h 1 rfl rfl rfl ?_
      | refine t_ldO h 2 rfl rfl rfl ?_
      | refine t_ldO h 3 rfl rfl rfl ?_
      | refine t_ldO h 4 rfl rfl rfl ?_
      | refine t_ldO h 5 rfl rfl rfl ?_
      | refine t_ldO h 6 rfl rfl rfl ?_
      | refine t_ldO h 7 rfl rfl rfl ?_
      | refine t_ldO h 8 rfl rfl rfl ?_
      | refine t_ldO h 9 rfl rfl rfl ?_
      | refine t_keepB h 0 rfl rfl ?_
      | refine t_keepB h 1 rfl rfl ?_
      | refine t_keepB h 2 rfl rfl ?_
      | refine t_keepB h 3 rfl rfl ?_
      | refine t_keepB h 4 rfl rfl ?_
      | refine t_keepB h 5 rfl rfl ?_
      | refine t_keepB h 6 rfl rfl ?_
      | refine t_keepB h 7 rfl rfl ?_
      | refine t_keepB h 8 rfl rfl ?_
      | refine t_keepB h 9 rfl rfl ?_
      | (refine t_stB h 0 rfl (by simp [setL]) (by simp [Value.oneCell']) fun w h => ?_; try dsimp only [List.set, setL, List.eraseIdx, List.cons_append, List.nil_append, List.append_nil, Nat.zero_add, Nat.reduceAdd, Sl.v] at h)
      | (refine t_stB h 1 rfl (by simp [setL]) (by simp [Value.oneCell']) fun w h => ?_; try dsimp only [List.set, setL, List.eraseIdx, List.cons_append, List.nil_append, List.append_nil, Nat.zero_add, Nat.reduceAdd, Sl.v] at h)
      | (refine t_stB h 2 rfl (by simp [setL]) (by simp [Value.oneCell']) fun w h => ?_; try dsimp only [List.set, setL, List.eraseIdx, List.cons_append, List.nil_append, List.append_nil, Nat.zero_add, Nat.reduceAdd, Sl.v] at h)
      | (refine t_stB h 3 rfl (by simp [setL]) (by simp [Value.oneCell']) fun w h => ?_; try dsimp only [List.set, setL, List.eraseIdx, List.cons_append, List.nil_append, List.append_nil, Nat.zero_add, Nat.reduceAdd, Sl.v] at h)
      | (refine t_stB h 4 rfl (by simp [setL]) (by simp [Value.oneCell']) fun w h => ?_; try dsimp only [List.set, setL, List.eraseIdx, List.cons_append, List.nil_append, List.append_nil, Nat.zero_add, Nat.reduceAdd, Sl.v] at h)
      | (refine t_stB h 5 rfl (by simp [setL]) (by simp [Value.oneCell']) fun w h => ?_; try dsimp only [List.set, setL, List.eraseIdx, List.cons_append, List.nil_append, List.append_nil, Nat.zero_add, Nat.reduceAdd, Sl.v] at h)
      | (refine t_stB h 6 rfl (by simp [setL]) (by simp [Value.oneCell']) fun w h => ?_; try dsimp only [List.set, setL, List.eraseIdx, List.cons_append, List.nil_append, List.append_nil, Nat.zero_add, Nat.reduceAdd, Sl.v] at h)
      | (refine t_stB h 7 rfl (by simp [setL]) (by simp [Value.oneCell']) fun w h => ?_; try dsimp only [List.set, setL, List.eraseIdx, List.cons_append, List.nil_append, List.append_nil, Nat.zero_add, Nat.reduceAdd, Sl.v] at h)
      | (refine t_stB h 8 rfl (by simp [setL]) (by simp [Value.oneCell']) fun w h => ?_; try dsimp only [List.set, setL, List.eraseIdx, List.cons_append, List.nil_append, List.append_nil, Nat.zero_add, Nat.reduceAdd, Sl.v] at h)
      | (refine t_stB h 9 rfl (by simp [setL]) (by simp [Value.oneCell']) fun w h => ?_; try dsimp only [List.set, setL, List.eraseIdx, List.cons_append, List.nil_append, List.append_nil, Nat.zero_add, Nat.reduceAdd, Sl.v] at h)
      | refine t_newB h (by simp [Value.oneCell']) fun w b h hb => ?_
      | refine t_nil ?_
      | refine t_true rfl ?_
      | refine t_false rfl ?_
      | refine t_yes rfl ?_
      | refine t_nyes rfl ?_
      | refine t_no (by decide) ?_
      | refine t_nno (by decide) ?_
      | refine t_need (by decide) ?_)
    try dsimp only [List.set, setL, List.eraseIdx, List.cons_append, List.nil_append, List.append_nil, Nat.zero_add, Nat.reduceAdd, Sl.v] at h
    have hok0 : DoesOk y (M.newQ y) (M.newMem (M.laid0 bytes) y) 0 0 := ⟨newQ_inv (by rw [laid0_length]; omega) hc, rfl, by rw [newMem_length]; exact hc, by rw [newMem_length, laid0_length]; omega, by omega, by omega, by
      have := layCheck_ok hc; simp only [M.newQ]; omega⟩
    refine t_loop (fun m st w' => ∃ (i mb qb : Nat) (q : M.DQ) (l : List UInt8) (since : Int), i ≤ sc.n ∧ i ≤ 80 ∧ m = sc.n - i ∧ st = (some ⟨mb, 0, none⟩, some ⟨qb, 0, none⟩, (i : Int), ()) ∧ DoesOk y q l since i ∧
      St w0 W w' (dqR qb mb q :: memR mb l :: kqR xb kb (M.kOf q since) :: memK kb l :: blkR wb [.int .i64 bytes, .int .i64 y.ring, .int .i64 y.size, .int .i64 y.drv, .int .i64 y.dev, .slice sc.a sc.n sc.c] 26 :: B)) sc.n ⟨0, mb, qb, M.newQ y, M.newMem (M.laid0 bytes) y, 0, by omega, by omega, rfl, rfl, hok0, h.weak (by repeat (first | exact Weak.refl _ | apply Weak.c0 | apply Weak.c1 | apply Weak.c2 | apply Weak.c3 | apply Weak.c4 | apply Weak.c5 | apply Weak.c6 | apply Weak.c7 | apply Weak.c8 | apply Weak.c9 | apply Weak.c10 | apply Weak.c11 | apply Weak.drop))⟩ ?_
    clear h hok0
    rintro m st w ⟨i, mb, qb, q, l, since, hi, hi80, rfl, rfl, hok, h⟩ Ks hJ _
    dsimp only
    refine t_true rfl (t_true rfl ?_)
    repeat (first
      | refine t_tickS h fun w h => ?_
      | refine t_keepN ?_
      | refine t_ldB h 0 rfl rfl ?_
      | refine t_ldB h 1 rfl rfl ?_
      | refine t_ldB h 2 rfl rfl ?_
      | refine t_ldB h 3 rfl rfl ?_
      | refine t_ldB h 4 rfl rfl ?_
      | refine t_ldB h 5 rfl rfl ?_
      | refine t_ldB h 6 rfl rfl ?_
      | refine t_ldB h 7 rfl rfl ?_
      | refine t_ldB h 8 rfl rfl ?_
      | refine t_ldB h 9 rfl rfl ?_
      | refine t_ldO h 0 rfl rfl rfl ?_
      | refine t_ldO h 1 rfl rfl rfl ?_
      | refine t_ldO h 2 rfl rfl rfl ?_
      | refine t_ldO h 3 rfl rfl rfl ?_
      | refine t_ldO h 4 rfl rfl rfl ?_
      | refine t_ldO h 5 rfl rfl rfl ?_
      | refine t_ldO h 6 rfl rfl rfl ?_
      | refine t_ldO h 7 rfl rfl rfl ?_
      | refine t_ldO h 8 rfl rfl rfl ?_
      | refine t_ldO h 9 rfl rfl rfl ?_
      | refine t_keepB h 0 rfl rfl ?_
      | refine t_keepB h 1 rfl rfl ?_
      | refine t_keepB h 2 rfl rfl ?_
      | refine t_keepB h 3 rfl rfl ?_
      | refine t_keepB h 4 rfl rfl ?_
      | refine t_keepB h 5 rfl rfl ?_
      | refine t_keepB h 6 rfl rfl ?_
      | refine t_keepB h 7 rfl rfl ?_
      | refine t_keepB h 8 rfl rfl ?_
      | refine t_keepB h 9 rfl rfl ?_
      | (refine t_stB h 0 rfl (by simp [setL]) (by simp [Value.oneCell']) fun w h => ?_; try dsimp only [List.set, setL, List.eraseIdx, List.cons_append, List.nil_append, List.append_nil, Nat.zero_add, Nat.reduceAdd, Sl.v] at h)
      | (refine t_stB h 1 rfl (by simp [setL]) (by simp [Value.oneCell']) fun w h => ?_; try dsimp only [List.set, setL, List.eraseIdx, List.cons_append, List.nil_append, List.append_nil, Nat.zero_add, Nat.reduceAdd, Sl.v] at h)
      | (refine t_stB h 2 rfl (by simp [setL]) (by simp [Value.oneCell']) fun w h => ?_; try dsimp only [List.set, setL, List.eraseIdx, List.cons_append, List.nil_append, List.append_nil, Nat.zero_add, Nat.reduceAdd, Sl.v] at h)
      | (refine t_stB h 3 rfl (by simp [setL]) (by simp [Value.oneCell']) fun w h => ?_; try dsimp only [List.set, setL, List.eraseIdx, List.cons_append, List.nil_append, List.append_nil, Nat.zero_add, Nat.reduceAdd, Sl.v] at h)
      | (refine t_stB h 4 rfl (by simp [setL]) (by simp [Value.oneCell']) fun w h => ?_; try dsimp only [List.set, setL, List.eraseIdx, List.cons_append, List.nil_append, List.append_nil, Nat.zero_add, Nat.reduceAdd, Sl.v] at h)
      | (refine t_stB h 5 rfl (by simp [setL]) (by simp [Value.oneCell']) fun w h => ?_; try dsimp only [List.set, setL, List.eraseIdx, List.cons_append, List.nil_append, List.append_nil, Nat.zero_add, Nat.reduceAdd, Sl.v] at h)
      | (refine t_stB h 6 rfl (by simp [setL]) (by simp [Value.oneCell']) fun w h => ?_; try dsimp only [List.set, setL, List.eraseIdx, List.cons_append, List.nil_append, List.append_nil, Nat.zero_add, Nat.reduceAdd, Sl.v] at h)
      | (refine t_stB h 7 rfl (by simp [setL]) (by simp [Value.oneCell']) fun w h => ?_; try dsimp only [List.set, setL, List.eraseIdx, List.cons_append, List.nil_append, List.append_nil, Nat.zero_add, Nat.reduceAdd, Sl.v] at h)
      | (refine t_stB h 8 rfl (by simp [setL]) (by simp [Value.oneCell']) fun w h => ?_; try dsimp only [List.set, setL, List.eraseIdx, List.cons_append, List.nil_append, List.append_nil, Nat.zero_add, Nat.reduceAdd, Sl.v] at h)
      | (refine t_stB h 9 rfl (by simp [setL]) (by simp [Value.oneCell']) fun w h => ?_; try dsimp only [List.set, setL, List.eraseIdx, List.cons_append, List.nil_append, List.append_nil, Nat.zero_add, Nat.reduceAdd, Sl.v] at h)
      | refine t_newB h (by simp [Value.oneCell']) fun w b h hb => ?_
      | refine t_nil ?_
      | refine t_true rfl ?_
      | refine t_false rfl ?_
      | refine t_yes rfl ?_
      | refine t_nyes rfl ?_
      | refine t_no (by decide) ?_
      | refine t_nno (by decide) ?_
      | refine t_need (by decide) ?_)
    try dsimp only [List.set, setL, List.eraseIdx, List.cons_append, List.nil_append, List.append_nil, Nat.zero_add, Nat.reduceAdd, Sl.v] at h
    refine t_if (fun c1 => ?_) (fun c1 => ?_)
    · refine t_if (fun c2 => ?_) (fun c2 => ?_)
      · repeat (first
          | refine t_tickS h fun w h => ?_
          | refine t_keepN ?_
          | refine t_ldB h 0 rfl rfl ?_
          | refine t_ldB h 1 rfl rfl ?_
          | refine t_ldB h 2 rfl rfl ?_
          | refine t_ldB h 3 rfl rfl ?_
          | refine t_ldB h 4 rfl rfl ?_
          | refine t_ldB h 5 rfl rfl ?_
          | refine t_ldB h 6 rfl rfl ?_
          | refine t_ldB h 7 rfl rfl ?_
          | refine t_ldB h 8 rfl rfl ?_
          | refine t_ldB h 9 rfl rfl ?_
          | refine t_ldO h 0 rfl rfl rfl ?_
          | refine t_ldO h 1 rfl rfl rfl ?_
          | refine t_ldO h 2 rfl rfl rfl ?_
          | refine t_ldO h 3 rfl rfl rfl ?_
          | refine t_ldO h 4 rfl rfl rfl ?_
          | refine t_ldO h 5 rfl rfl rfl ?_
          | refine t_ldO h 6 rfl rfl rfl ?_
          | refine t_ldO h 7 rfl rfl rfl ?_
          | refine t_ldO h 8 rfl rfl rfl ?_
          | refine t_ldO h 9 rfl rfl rfl ?_
          | refine t_keepB h 0 rfl rfl ?_
          | refine t_keepB h 1 rfl rfl ?_
          | refine t_keepB h 2 rfl rfl ?_
          | refine t_keepB h 3 rfl rfl ?_
          | refine t_keepB h 4 rfl rfl ?_
          | refine t_keepB h 5 rfl rfl ?_
          | refine t_keepB h 6 rfl rfl ?_
          | refine t_keepB h 7 rfl rfl ?_
          | refine t_keepB h 8 rfl rfl ?_
          | refine t_keepB h 9 rfl rfl ?_
          | (refine t_stB h 0 rfl (by simp [setL]) (by simp [Value.oneCell']) fun w h => ?_; try dsimp only [List.set, setL, List.eraseIdx, List.cons_append, List.nil_append, List.append_nil, Nat.zero_add, Nat.reduceAdd, Sl.v] at h)
          | (refine t_stB h 1 rfl (by simp [setL]) (by simp [Value.oneCell']) fun w h => ?_; try dsimp only [List.set, setL, List.eraseIdx, List.cons_append, List.nil_append, List.append_nil, Nat.zero_add, Nat.reduceAdd, Sl.v] at h)
          | (refine t_stB h 2 rfl (by simp [setL]) (by simp [Value.oneCell']) fun w h => ?_; try dsimp only [List.set, setL, List.eraseIdx, List.cons_append, List.nil_append, List.append_nil, Nat.zero_add, Nat.reduceAdd, Sl.v] at h)
          | (refine t_stB h 3 rfl (by simp [setL]) (by simp [Value.oneCell']) fun w h => ?_; try dsimp only [List.set, setL, List.eraseIdx, List.cons_append, List.nil_append, List.append_nil, Nat.zero_add, Nat.reduceAdd, Sl.v] at h)
          | (refine t_stB h 4 rfl (by simp [setL]) (by simp [Value.oneCell']) fun w h => ?_; try dsimp only [List.set, setL, List.eraseIdx, List.cons_append, List.nil_append, List.append_nil, Nat.zero_add, Nat.reduceAdd, Sl.v] at h)
          | (refine t_stB h 5 rfl (by simp [setL]) (by simp [Value.oneCell']) fun w h => ?_; try dsimp only [List.set, setL, List.eraseIdx, List.cons_append, List.nil_append, List.append_nil, Nat.zero_add, Nat.reduceAdd, Sl.v] at h)
          | (refine t_stB h 6 rfl (by simp [setL]) (by simp [Value.oneCell']) fun w h => ?_; try dsimp only [List.set, setL, List.eraseIdx, List.cons_append, List.nil_append, List.append_nil, Nat.zero_add, Nat.reduceAdd, Sl.v] at h)
          | (refine t_stB h 7 rfl (by simp [setL]) (by simp [Value.oneCell']) fun w h => ?_; try dsimp only [List.set, setL, List.eraseIdx, List.cons_append, List.nil_append, List.append_nil, Nat.zero_add, Nat.reduceAdd, Sl.v] at h)
          | (refine t_stB h 8 rfl (by simp [setL]) (by simp [Value.oneCell']) fun w h => ?_; try dsimp only [List.set, setL, List.eraseIdx, List.cons_append, List.nil_append, List.append_nil, Nat.zero_add, Nat.reduceAdd, Sl.v] at h)
          | (refine t_stB h 9 rfl (by simp [setL]) (by simp [Value.oneCell']) fun w h => ?_; try dsimp only [List.set, setL, List.eraseIdx, List.cons_append, List.nil_append, List.append_nil, Nat.zero_add, Nat.reduceAdd, Sl.v] at h)
          | refine t_newB h (by simp [Value.oneCell']) fun w b h hb => ?_
          | refine t_nil ?_
          | refine t_true rfl ?_
          | refine t_false rfl ?_
          | refine t_yes rfl ?_
          | refine t_nyes rfl ?_
          | refine t_no (by decide) ?_
          | refine t_nno (by decide) ?_
          | refine t_need (by decide) ?_)
        try dsimp only [List.set, setL, List.eraseIdx, List.cons_append, List.nil_append, List.append_nil, Nat.zero_add, Nat.reduceAdd, Sl.v] at h
        dsimp only at c1
        have hlt : i < ops.length := by omega
        refine t_need (by dsimp only; omega) (t_nilRd (s := sc) (hro w h.kept).1 (by omega) fun a ha => ?_)
        rw [Int.toNat_natCast]
        have hd : (opsV ops).drop (i * 10) = Op.cells ops[i] ++ opsV (ops.drop (i + 1)) := by rw [opsV_drop, List.drop_eq_getElem_cons hlt]; rfl
        have hg : ∀ w', Keep W w0 w' → Op.Good w' ops[i] := fun w' hk => ((hro w' hk).2 _ (List.getElem_mem hlt)).1
        have hoe := ((hro w h.kept).2 _ (List.getElem_mem hlt)).2
        generalize ops[i] = o at *
        refine t_ldRd (k := .agg [.I, .I, .I, .I, .slc, .str, .I, .bool, .I, .bool]) (x := (o.kind, o.at_, o.id, o.n, o.parts, mkB o.s, o.off, o.ew, o.fl, o.wrap, ())) (hro w h.kept).1 ha (by rw [hd]; rfl) ?_
        obtain ⟨hq, hy2, hck, hl, hs0, hs1, hs2⟩ := id hok
        subst hy2
        have hsz := hq.ok.size
        have hgw := hg w h.kept
        repeat (first
          | refine t_tickS h fun w h => ?_
          | refine t_keepN ?_
          | refine t_ldB h 0 rfl rfl ?_
          | refine t_ldB h 1 rfl rfl ?_
          | refine t_ldB h 2 rfl rfl ?_
          | refine t_ldB h 3 rfl rfl ?_
          | refine t_ldB h 4 rfl rfl ?_
          | refine t_ldB h 5 rfl rfl ?_
          | refine t_ldB h 6 rfl rfl ?_
          | refine t_ldB h 7 rfl rfl ?_
          | refine t_ldB h 8 rfl rfl ?_
          | refine t_ldB h 9 rfl rfl ?_
          | refine t_ldO h 0 rfl rfl rfl ?_
          | refine t_ldO h 1 rfl rfl rfl ?_
          | refine t_ldO h 2 rfl rfl rfl ?_
          | refine t_ldO h 3 rfl rfl rfl ?_
          | refine t_ldO h 4 rfl rfl rfl ?_
          | refine t_ldO h 5 rfl rfl rfl ?_
          | refine t_ldO h 6 rfl rfl rfl ?_
          | refine t_ldO h 7 rfl rfl rfl ?_
          | refine t_ldO h 8 rfl rfl rfl ?_
          | refine t_ldO h 9 rfl rfl rfl ?_
          | refine t_keepB h 0 rfl rfl ?_
          | refine t_keepB h 1 rfl rfl ?_
          | refine t_keepB h 2 rfl rfl ?_
          | refine t_keepB h 3 rfl rfl ?_
          | refine t_keepB h 4 rfl rfl ?_
          | refine t_keepB h 5 rfl rfl ?_
          | refine t_keepB h 6 rfl rfl ?_
          | refine t_keepB h 7 rfl rfl ?_
          | refine t_keepB h 8 rfl rfl ?_
          | refine t_keepB h 9 rfl rfl ?_
          | (refine t_stB h 0 rfl (by simp [setL]) (by simp [Value.oneCell']) fun w h => ?_; try dsimp only [List.set, setL, List.eraseIdx, List.cons_append, List.nil_append, List.append_nil, Nat.zero_add, Nat.reduceAdd, Sl.v] at h)
          | (refine t_stB h 1 rfl (by simp [setL]) (by simp [Value.oneCell']) fun w h => ?_; try dsimp only [List.set, setL, List.eraseIdx, List.cons_append, List.nil_append, List.append_nil, Nat.zero_add, Nat.reduceAdd, Sl.v] at h)
          | (refine t_stB h 2 rfl (by simp [setL]) (by simp [Value.oneCell']) fun w h => ?_; try dsimp only [List.set, setL, List.eraseIdx, List.cons_append, List.nil_append, List.append_nil, Nat.zero_add, Nat.reduceAdd, Sl.v] at h)
          | (refine t_stB h 3 rfl (by simp [setL]) (by simp [Value.oneCell']) fun w h => ?_; try dsimp only [List.set, setL, List.eraseIdx, List.cons_append, List.nil_append, List.append_nil, Nat.zero_add, Nat.reduceAdd, Sl.v] at h)
          | (refine t_stB h 4 rfl (by simp [setL]) (by simp [Value.oneCell']) fun w h => ?_; try dsimp only [List.set, setL, List.eraseIdx, List.cons_append, List.nil_append, List.append_nil, Nat.zero_add, Nat.reduceAdd, Sl.v] at h)
          | (refine t_stB h 5 rfl (by simp [setL]) (by simp [Value.oneCell']) fun w h => ?_; try dsimp only [List.set, setL, List.eraseIdx, List.cons_append, List.nil_append, List.append_nil, Nat.zero_add, Nat.reduceAdd, Sl.v] at h)
          | (refine t_stB h 6 rfl (by simp [setL]) (by simp [Value.oneCell']) fun w h => ?_; try dsimp only [List.set, setL, List.eraseIdx, List.cons_append, List.nil_append, List.append_nil, Nat.zero_add, Nat.reduceAdd, Sl.v] at h)
          | (refine t_stB h 7 rfl (by simp [setL]) (by simp [Value.oneCell']) fun w h => ?_; try dsimp only [List.set, setL, List.eraseIdx, List.cons_append, List.nil_append, List.append_nil, Nat.zero_add, Nat.reduceAdd, Sl.v] at h)
          | (refine t_stB h 8 rfl (by simp [setL]) (by simp [Value.oneCell']) fun w h => ?_; try dsimp only [List.set, setL, List.eraseIdx, List.cons_append, List.nil_append, List.append_nil, Nat.zero_add, Nat.reduceAdd, Sl.v] at h)
          | (refine t_stB h 9 rfl (by simp [setL]) (by simp [Value.oneCell']) fun w h => ?_; try dsimp only [List.set, setL, List.eraseIdx, List.cons_append, List.nil_append, List.append_nil, Nat.zero_add, Nat.reduceAdd, Sl.v] at h)
          | refine t_newB h (by simp [Value.oneCell']) fun w b h hb => ?_
          | refine t_nil ?_
          | refine t_true rfl ?_
          | refine t_false rfl ?_
          | refine t_yes rfl ?_
          | refine t_nyes rfl ?_
          | refine t_no (by decide) ?_
          | refine t_nno (by decide) ?_
          | refine t_need (by decide) ?_)
        try dsimp only [List.set, setL, List.eraseIdx, List.cons_append, List.nil_append, List.append_nil, Nat.zero_add, Nat.reduceAdd, Sl.v] at h
        obtain ⟨ob, hob⟩ : ∃ x, x = b := ⟨_, rfl⟩
        subst hob
        refine t_bindQ (fun x w' => ∃ (mb' qb' : Nat) (q' : M.DQ) (l' : List UInt8) (since' : Int), x = (some ⟨mb', 0, none⟩, some ⟨qb', 0, none⟩, ()) ∧ DoesOk q.l q' l' since' (i + 1) ∧
          St w0 W w' (dqR qb' mb' q' :: memR mb' l' :: kqR xb kb (M.kOf q' since') :: memK kb l' :: blkR wb [.int .i64 bytes, .int .i64 q.l.ring, .int .i64 q.l.size, .int .i64 q.l.drv, .int .i64 q.l.dev, .slice sc.a sc.n sc.c] 26 :: B)) ?_ ?_
        · clear hJ
          repeat (first
            | refine t_tickS h fun w h => ?_
            | refine t_keepN ?_
            | refine t_ldB h 0 rfl rfl ?_
            | refine t_ldB h 1 rfl rfl ?_
            | refine t_ldB h 2 rfl rfl ?_
            | refine t_ldB h 3 rfl rfl ?_
            | refine t_ldB h 4 rfl rfl ?_
            | refine t_ldB h 5 rfl rfl ?_
            | refine t_ldB h 6 rfl rfl ?_
            | refine t_ldB h 7 rfl rfl ?_
            | refine t_ldB h 8 rfl rfl ?_
            | refine t_ldB h 9 rfl rfl ?_
            | refine t_ldO h 0 rfl rfl rfl ?_
            | refine t_ldO h 1 rfl rfl rfl ?_
            | refine t_ldO h 2 rfl rfl rfl ?_
            | refine t_ldO h 3 rfl rfl rfl ?_
            | refine t_ldO h 4 rfl rfl rfl ?_
            | refine t_ldO h 5 rfl rfl rfl ?_
            | refine t_ldO h 6 rfl rfl rfl ?_
            | refine t_ldO h 7 rfl rfl rfl ?_
            | refine t_ldO h 8 rfl rfl rfl ?_
            | refine t_ldO h 9 rfl rfl rfl ?_
            | refine t_keepB h 0 rfl rfl ?_
            | refine t_keepB h 1 rfl rfl ?_
            | refine t_keepB h 2 rfl rfl ?_
            | refine t_keepB h 3 rfl rfl ?_
            | refine t_keepB h 4 rfl rfl ?_
            | refine t_keepB h 5 rfl rfl ?_
            | refine t_keepB h 6 rfl rfl ?_
            | refine t_keepB h 7 rfl rfl ?_
            | refine t_keepB h 8 rfl rfl ?_
            | refine t_keepB h 9 rfl rfl ?_
            | (refine t_stB h 0 rfl (by simp [setL]) (by simp [Value.oneCell']) fun w h => ?_; try dsimp only [List.set, setL, List.eraseIdx, List.cons_append, List.nil_append, List.append_nil, Nat.zero_add, Nat.reduceAdd, Sl.v] at h)
            | (refine t_stB h 1 rfl (by simp [setL]) (by simp [Value.oneCell']) fun w h => ?_; try dsimp only [List.set, setL, List.eraseIdx, List.cons_append, List.nil_append, List.append_nil, Nat.zero_add, Nat.reduceAdd, Sl.v] at h)
            | (refine t_stB h 2 rfl (by simp [setL]) (by simp [Value.oneCell']) fun w h => ?_; try dsimp only [List.set, setL, List.eraseIdx, List.cons_append, List.nil_append, List.append_nil, Nat.zero_add, Nat.reduceAdd, Sl.v] at h)
            | (refine t_stB h 3 rfl (by simp [setL]) (by simp [Value.oneCell']) fun w h => ?_; try dsimp only [List.set, setL, List.eraseIdx, List.cons_append, List.nil_append, List.append_nil, Nat.zero_add, Nat.reduceAdd, Sl.v] at h)
            | (refine t_stB h 4 rfl (by simp [setL]) (by simp [Value.oneCell']) fun w h => ?_; try dsimp only [List.set, setL, List.eraseIdx, List.cons_append, List.nil_append, List.append_nil, Nat.zero_add, Nat.reduceAdd, Sl.v] at h)
            | (refine t_stB h 5 rfl (by simp [setL]) (by simp [Value.oneCell']) fun w h => ?_; try dsimp only [List.set, setL, List.eraseIdx, List.cons_append, List.nil_append, List.append_nil, Nat.zero_add, Nat.reduceAdd, Sl.v] at h)
            | (refine t_stB h 6 rfl (by simp [setL]) (by simp [Value.oneCell']) fun w h => ?_; try dsimp only [List.set, setL, List.eraseIdx, List.cons_append, List.nil_append, List.append_nil, Nat.zero_add, Nat.reduceAdd, Sl.v] at h)
            | (refine t_stB h 7 rfl (by simp [setL]) (by simp [Value.oneCell']) fun w h => ?_; try dsimp only [List.set, setL, List.eraseIdx, List.cons_append, List.nil_append, List.append_nil, Nat.zero_add, Nat.reduceAdd, Sl.v] at h)
            | (refine t_stB h 8 rfl (by simp [setL]) (by simp [Value.oneCell']) fun w h => ?_; try dsimp only [List.set, setL, List.eraseIdx, List.cons_append, List.nil_append, List.append_nil, Nat.zero_add, Nat.reduceAdd, Sl.v] at h)
            | (refine t_stB h 9 rfl (by simp [setL]) (by simp [Value.oneCell']) fun w h => ?_; try dsimp only [List.set, setL, List.eraseIdx, List.cons_append, List.nil_append, List.append_nil, Nat.zero_add, Nat.reduceAdd, Sl.v] at h)
            | refine t_newB h (by simp [Value.oneCell']) fun w b h hb => ?_
            | refine t_nil ?_
            | refine t_true rfl ?_
            | refine t_false rfl ?_
            | refine t_yes rfl ?_
            | refine t_nyes rfl ?_
            | refine t_no (by decide) ?_
            | refine t_nno (by decide) ?_
            | refine t_need (by decide) ?_)
          try dsimp only [List.set, setL, List.eraseIdx, List.cons_append, List.nil_append, List.append_nil, Nat.zero_add, Nat.reduceAdd, Sl.v] at h
          refine t_if (fun k0 => ?_) (fun k0 => ?_)
          · repeat (first
              | refine t_tickS h fun w h => ?_
              | refine t_keepN ?_
              | refine t_ldB h 0 rfl rfl ?_
              | refine t_ldB h 1 rfl rfl ?_
              | refine t_ldB h 2 rfl rfl ?_
              | refine t_ldB h 3 rfl rfl ?_
              | refine t_ldB h 4 rfl rfl ?_
              | refine t_ldB h 5 rfl rfl ?_
              | refine t_ldB h 6 rfl rfl ?_
              | refine t_ldB h 7 rfl rfl ?_
              | refine t_ldB h 8 rfl rfl ?_
              | refine t_ldB h 9 rfl rfl ?_
              | refine t_ldO h 0 rfl rfl rfl ?_
              | refine t_ldO h 1 rfl rfl rfl ?_
              | refine t_ldO h 2 rfl rfl rfl ?_
              | refine t_ldO h 3 rfl rfl rfl ?_
              | refine t_ldO h 4 rfl rfl rfl ?_
              | refine t_ldO h 5 rfl rfl rfl ?_
              | refine t_ldO h 6 rfl rfl rfl ?_
              | refine t_ldO h 7 rfl rfl rfl ?_
              | refine t_ldO h 8 rfl rfl rfl ?_
              | refine t_ldO h 9 rfl rfl rfl ?_
              | refine t_keepB h 0 rfl rfl ?_
              | refine t_keepB h 1 rfl rfl ?_
              | refine t_keepB h 2 rfl rfl ?_
              | refine t_keepB h 3 rfl rfl ?_
              | refine t_keepB h 4 rfl rfl ?_
              | refine t_keepB h 5 rfl rfl ?_
              | refine t_keepB h 6 rfl rfl ?_
              | refine t_keepB h 7 rfl rfl ?_
              | refine t_keepB h 8 rfl rfl ?_
              | refine t_keepB h 9 rfl rfl ?_
              | (refine t_stB h 0 rfl (by simp [setL]) (by simp [Value.oneCell']) fun w h => ?_; try dsimp only [List.set, setL, List.eraseIdx, List.cons_append, List.nil_append, List.append_nil, Nat.zero_add, Nat.reduceAdd, Sl.v] at h)
              | (refine t_stB h 1 rfl (by simp [setL]) (by simp [Value.oneCell']) fun w h => ?_; try dsimp only [List.set, setL, List.eraseIdx, List.cons_append, List.nil_append, List.append_nil, Nat.zero_add, Nat.reduceAdd, Sl.v] at h)
              | (refine t_stB h 2 rfl (by simp [setL]) (by simp [Value.oneCell']) fun w h => ?_; try dsimp only [List.set, setL, List.eraseIdx, List.cons_append, List.nil_append, List.append_nil, Nat.zero_add, Nat.reduceAdd, Sl.v] at h)
              | (refine t_stB h 3 rfl (by simp [setL]) (by simp [Value.oneCell']) fun w h => ?_; try dsimp only [List.set, setL, List.eraseIdx, List.cons_append, List.nil_append, List.append_nil, Nat.zero_add, Nat.reduceAdd, Sl.v] at h)
              | (refine t_stB h 4 rfl (by simp [setL]) (by simp [Value.oneCell']) fun w h => ?_; try dsimp only [List.set, setL, List.eraseIdx, List.cons_append, List.nil_append, List.append_nil, Nat.zero_add, Nat.reduceAdd, Sl.v] at h)
              | (refine t_stB h 5 rfl (by simp [setL]) (by simp [Value.oneCell']) fun w h => ?_; try dsimp only [List.set, setL, List.eraseIdx, List.cons_append, List.nil_append, List.append_nil, Nat.zero_add, Nat.reduceAdd, Sl.v] at h)
              | (refine t_stB h 6 rfl (by simp [setL]) (by simp [Value.oneCell']) fun w h => ?_; try dsimp only [List.set, setL, List.eraseIdx, List.cons_append, List.nil_append, List.append_nil, Nat.zero_add, Nat.reduceAdd, Sl.v] at h)
              | (refine t_stB h 7 rfl (by simp [setL]) (by simp [Value.oneCell']) fun w h => ?_; try dsimp only [List.set, setL, List.eraseIdx, List.cons_append, List.nil_append, List.append_nil, Nat.zero_add, Nat.reduceAdd, Sl.v] at h)
              | (refine t_stB h 8 rfl (by simp [setL]) (by simp [Value.oneCell']) fun w h => ?_; try dsimp only [List.set, setL, List.eraseIdx, List.cons_append, List.nil_append, List.append_nil, Nat.zero_add, Nat.reduceAdd, Sl.v] at h)
              | (refine t_stB h 9 rfl (by simp [setL]) (by simp [Value.oneCell']) fun w h => ?_; try dsimp only [List.set, setL, List.eraseIdx, List.cons_append, List.nil_append, List.append_nil, Nat.zero_add, Nat.reduceAdd, Sl.v] at h)
              | refine t_newB h (by simp [Value.oneCell']) fun w b h hb => ?_
              | refine t_nil ?_
              | refine t_true rfl ?_
              | refine t_false rfl ?_
              | refine t_yes rfl ?_
              | refine t_nyes rfl ?_
              | refine t_no (by decide) ?_
              | refine t_nno (by decide) ?_
              | refine t_need (by decide) ?_)
            try dsimp only [List.set, setL, List.eraseIdx, List.cons_append, List.nil_append, List.append_nil, Nat.zero_add, Nat.reduceAdd, Sl.v] at h
            have hpl : (o.ps.take 70).length ≤ 70 := by simp; omega
            have hpw : ∀ p ∈ o.ps.take 70, i64R p.at_ ∧ i64R p.n := fun p hp => hgw.ps p (List.mem_of_mem_take hp)
            have hpn : (⟨slB o.parts.a 0 3 o.parts.c, (imn (o.parts.n : Int) 70).toNat, o.parts.c⟩ : Sl).n ≤ 281474976710656 := by unfold imn; dsimp only; split <;> omega
            first | refine t_fn (parts_con o hgw) h (by repeat (first | exact Sub.nil _ | apply Sub.c0 | apply Sub.c1 | apply Sub.c2 | apply Sub.c3 | apply Sub.c4 | apply Sub.c5 | apply Sub.c6 | apply Sub.c7 | apply Sub.c8 | apply Sub.c9 | apply Sub.c10 | apply Sub.c11 | exact Sub.refl _)) noRo fun w h => ?_ | refine t_fnn (parts_con o hgw) h (by repeat (first | exact Sub.nil _ | apply Sub.c0 | apply Sub.c1 | apply Sub.c2 | apply Sub.c3 | apply Sub.c4 | apply Sub.c5 | apply Sub.c6 | apply Sub.c7 | apply Sub.c8 | apply Sub.c9 | apply Sub.c10 | apply Sub.c11 | exact Sub.refl _)) noRo fun w h => ?_
            try dsimp only [List.set, setL, List.eraseIdx, List.cons_append, List.nil_append, List.append_nil, Nat.zero_add, Nat.reduceAdd, Sl.v] at h
            first | refine t_fn (drvq_Post_fn (l := l) (q := q) (x1 := ⟨slB o.parts.a 0 3 o.parts.c, (imn (o.parts.n : Int) 70).toNat, o.parts.c⟩) (o.ps.take 70) hq (by omega) hpw hpn) h (by repeat (first | exact Sub.nil _ | apply Sub.c0 | apply Sub.c1 | apply Sub.c2 | apply Sub.c3 | apply Sub.c4 | apply Sub.c5 | apply Sub.c6 | apply Sub.c7 | apply Sub.c8 | apply Sub.c9 | apply Sub.c10 | apply Sub.c11 | exact Sub.refl _)) (fun w' hk => parts_rd (hg w' hk).rd) fun w h => ?_ | refine t_fnn (drvq_Post_fn (l := l) (q := q) (x1 := ⟨slB o.parts.a 0 3 o.parts.c, (imn (o.parts.n : Int) 70).toNat, o.parts.c⟩) (o.ps.take 70) hq (by omega) hpw hpn) h (by repeat (first | exact Sub.nil _ | apply Sub.c0 | apply Sub.c1 | apply Sub.c2 | apply Sub.c3 | apply Sub.c4 | apply Sub.c5 | apply Sub.c6 | apply Sub.c7 | apply Sub.c8 | apply Sub.c9 | apply Sub.c10 | apply Sub.c11 | exact Sub.refl _)) (fun w' hk => parts_rd (hg w' hk).rd) fun w h => ?_
            try dsimp only [List.set, setL, List.eraseIdx, List.cons_append, List.nil_append, List.append_nil, Nat.zero_add, Nat.reduceAdd, Sl.v] at h
            repeat (first
              | refine t_tickS h fun w h => ?_
              | refine t_keepN ?_
              | refine t_ldB h 0 rfl rfl ?_
              | refine t_ldB h 1 rfl rfl ?_
              | refine t_ldB h 2 rfl rfl ?_
              | refine t_ldB h 3 rfl rfl ?_
              | refine t_ldB h 4 rfl rfl ?_
              | refine t_ldB h 5 rfl rfl ?_
              | refine t_ldB h 6 rfl rfl ?_
              | refine t_ldB h 7 rfl rfl ?_
              | refine t_ldB h 8 rfl rfl ?_
              | refine t_ldB h 9 rfl rfl ?_
              | refine t_ldO h 0 rfl rfl rfl ?_
              | refine t_ldO h 1 rfl rfl rfl ?_
              | refine t_ldO h 2 rfl rfl rfl ?_
              | refine t_ldO h 3 rfl rfl rfl ?_
              | refine t_ldO h 4 rfl rfl rfl ?_
              | refine t_ldO h 5 rfl rfl rfl ?_
              | refine t_ldO h 6 rfl rfl rfl ?_
              | refine t_ldO h 7 rfl rfl rfl ?_
              | refine t_ldO h 8 rfl rfl rfl ?_
              | refine t_ldO h 9 rfl rfl rfl ?_
              | refine t_keepB h 0 rfl rfl ?_
              | refine t_keepB h 1 rfl rfl ?_
              | refine t_keepB h 2 rfl rfl ?_
              | refine t_keepB h 3 rfl rfl ?_
              | refine t_keepB h 4 rfl rfl ?_
              | refine t_keepB h 5 rfl rfl ?_
              | refine t_keepB h 6 rfl rfl ?_
              | refine t_keepB h 7 rfl rfl ?_
              | refine t_keepB h 8 rfl rfl ?_
              | refine t_keepB h 9 rfl rfl ?_
              | (refine t_stB h 0 rfl (by simp [setL]) (by simp [Value.oneCell']) fun w h => ?_; try dsimp only [List.set, setL, List.eraseIdx, List.cons_append, List.nil_append, List.append_nil, Nat.zero_add, Nat.reduceAdd, Sl.v] at h)
              | (refine t_stB h 1 rfl (by simp [setL]) (by simp [Value.oneCell']) fun w h => ?_; try dsimp only [List.set, setL, List.eraseIdx, List.cons_append, List.nil_append, List.append_nil, Nat.zero_add, Nat.reduceAdd, Sl.v] at h)
              | (refine t_stB h 2 rfl (by simp [setL]) (by simp [Value.oneCell']) fun w h => ?_; try dsimp only [List.set, setL, List.eraseIdx, List.cons_append, List.nil_append, List.append_nil, Nat.zero_add, Nat.reduceAdd, Sl.v] at h)
              | (refine t_stB h 3 rfl (by simp [setL]) (by simp [Value.oneCell']) fun w h => ?_; try dsimp only [List.set, setL, List.eraseIdx, List.cons_append, List.nil_append, List.append_nil, Nat.zero_add, Nat.reduceAdd, Sl.v] at h)
              | (refine t_stB h 4 rfl (by simp [setL]) (by simp [Value.oneCell']) fun w h => ?_; try dsimp only [List.set, setL, List.eraseIdx, List.cons_append, List.nil_append, List.append_nil, Nat.zero_add, Nat.reduceAdd, Sl.v] at h)
              | (refine t_stB h 5 rfl (by simp [setL]) (by simp [Value.oneCell']) fun w h => ?_; try dsimp only [List.set, setL, List.eraseIdx, List.cons_append, List.nil_append, List.append_nil, Nat.zero_add, Nat.reduceAdd, Sl.v] at h)
              | (refine t_stB h 6 rfl (by simp [setL]) (by simp [Value.oneCell']) fun w h => ?_; try dsimp only [List.set, setL, List.eraseIdx, List.cons_append, List.nil_append, List.append_nil, Nat.zero_add, Nat.reduceAdd, Sl.v] at h)
              | (refine t_stB h 7 rfl (by simp [setL]) (by simp [Value.oneCell']) fun w h => ?_; try dsimp only [List.set, setL, List.eraseIdx, List.cons_append, List.nil_append, List.append_nil, Nat.zero_add, Nat.reduceAdd, Sl.v] at h)
              | (refine t_stB h 8 rfl (by simp [setL]) (by simp [Value.oneCell']) fun w h => ?_; try dsimp only [List.set, setL, List.eraseIdx, List.cons_append, List.nil_append, List.append_nil, Nat.zero_add, Nat.reduceAdd, Sl.v] at h)
              | (refine t_stB h 9 rfl (by simp [setL]) (by simp [Value.oneCell']) fun w h => ?_; try dsimp only [List.set, setL, List.eraseIdx, List.cons_append, List.nil_append, List.append_nil, Nat.zero_add, Nat.reduceAdd, Sl.v] at h)
              | refine t_newB h (by simp [Value.oneCell']) fun w b h hb => ?_
              | refine t_nil ?_
              | refine t_true rfl ?_
              | refine t_false rfl ?_
              | refine t_yes rfl ?_
              | refine t_nyes rfl ?_
              | refine t_no (by decide) ?_
              | refine t_nno (by decide) ?_
              | refine t_need (by decide) ?_)
            try dsimp only [List.set, setL, List.eraseIdx, List.cons_append, List.nil_append, List.append_nil, Nat.zero_add, Nat.reduceAdd, Sl.v] at h
            first | refine t_fn (parts_con o hgw) h (by repeat (first | exact Sub.nil _ | apply Sub.c0 | apply Sub.c1 | apply Sub.c2 | apply Sub.c3 | apply Sub.c4 | apply Sub.c5 | apply Sub.c6 | apply Sub.c7 | apply Sub.c8 | apply Sub.c9 | apply Sub.c10 | apply Sub.c11 | exact Sub.refl _)) noRo fun w h => ?_ | refine t_fnn (parts_con o hgw) h (by repeat (first | exact Sub.nil _ | apply Sub.c0 | apply Sub.c1 | apply Sub.c2 | apply Sub.c3 | apply Sub.c4 | apply Sub.c5 | apply Sub.c6 | apply Sub.c7 | apply Sub.c8 | apply Sub.c9 | apply Sub.c10 | apply Sub.c11 | exact Sub.refl _)) noRo fun w h => ?_
            try dsimp only [List.set, setL, List.eraseIdx, List.cons_append, List.nil_append, List.append_nil, Nat.zero_add, Nat.reduceAdd, Sl.v] at h
            first | refine t_fn (R15_Post_con (l := l) (q := q) (since := since) (x1 := ⟨slB o.parts.a 0 3 o.parts.c, (imn (o.parts.n : Int) 70).toNat, o.parts.c⟩) (o.ps.take 70) hq (by omega) hck (by omega) hpw hpn) h (by repeat (first | exact Sub.nil _ | apply Sub.c0 | apply Sub.c1 | apply Sub.c2 | apply Sub.c3 | apply Sub.c4 | apply Sub.c5 | apply Sub.c6 | apply Sub.c7 | apply Sub.c8 | apply Sub.c9 | apply Sub.c10 | apply Sub.c11 | exact Sub.refl _)) (fun w' hk => parts_rd (hg w' hk).rd) fun w h => ?_ | refine t_fnn (R15_Post_con (l := l) (q := q) (since := since) (x1 := ⟨slB o.parts.a 0 3 o.parts.c, (imn (o.parts.n : Int) 70).toNat, o.parts.c⟩) (o.ps.take 70) hq (by omega) hck (by omega) hpw hpn) h (by repeat (first | exact Sub.nil _ | apply Sub.c0 | apply Sub.c1 | apply Sub.c2 | apply Sub.c3 | apply Sub.c4 | apply Sub.c5 | apply Sub.c6 | apply Sub.c7 | apply Sub.c8 | apply Sub.c9 | apply Sub.c10 | apply Sub.c11 | exact Sub.refl _)) (fun w' hk => parts_rd (hg w' hk).rd) fun w h => ?_
            try dsimp only [List.set, setL, List.eraseIdx, List.cons_append, List.nil_append, List.append_nil, Nat.zero_add, Nat.reduceAdd, Sl.v] at h
            refine t_nyes rfl (t_nyes rfl ?_)
            exact t_jmp ⟨(some ⟨mb, 0, none⟩, some ⟨qb, 0, none⟩, ()), rfl, mb, qb, _, _, _, rfl, hok.post (o.ps.take 70) hpl, h.weak (by repeat (first | exact Weak.refl _ | apply Weak.c0 | apply Weak.c1 | apply Weak.c2 | apply Weak.c3 | apply Weak.c4 | apply Weak.c5 | apply Weak.c6 | apply Weak.c7 | apply Weak.c8 | apply Weak.c9 | apply Weak.c10 | apply Weak.c11 | apply Weak.drop))⟩
          refine t_if (fun k1 => ?_) (fun k1 => ?_)
          · first | refine t_fn (drvq_Reap_fn (l := l) (q := q) hq (by omega)) h (by repeat (first | exact Sub.nil _ | apply Sub.c0 | apply Sub.c1 | apply Sub.c2 | apply Sub.c3 | apply Sub.c4 | apply Sub.c5 | apply Sub.c6 | apply Sub.c7 | apply Sub.c8 | apply Sub.c9 | apply Sub.c10 | apply Sub.c11 | exact Sub.refl _)) noRo fun w h => ?_ | refine t_fnn (drvq_Reap_fn (l := l) (q := q) hq (by omega)) h (by repeat (first | exact Sub.nil _ | apply Sub.c0 | apply Sub.c1 | apply Sub.c2 | apply Sub.c3 | apply Sub.c4 | apply Sub.c5 | apply Sub.c6 | apply Sub.c7 | apply Sub.c8 | apply Sub.c9 | apply Sub.c10 | apply Sub.c11 | exact Sub.refl _)) noRo fun w h => ?_
            try dsimp only [List.set, setL, List.eraseIdx, List.cons_append, List.nil_append, List.append_nil, Nat.zero_add, Nat.reduceAdd, Sl.v] at h
            first | refine t_fn (R15_Reap_con (l := l) (q := q) (since := since) hq hck (by omega)) h (by repeat (first | exact Sub.nil _ | apply Sub.c0 | apply Sub.c1 | apply Sub.c2 | apply Sub.c3 | apply Sub.c4 | apply Sub.c5 | apply Sub.c6 | apply Sub.c7 | apply Sub.c8 | apply Sub.c9 | apply Sub.c10 | apply Sub.c11 | exact Sub.refl _)) noRo fun w h => ?_ | refine t_fnn (R15_Reap_con (l := l) (q := q) (since := since) hq hck (by omega)) h (by repeat (first | exact Sub.nil _ | apply Sub.c0 | apply Sub.c1 | apply Sub.c2 | apply Sub.c3 | apply Sub.c4 | apply Sub.c5 | apply Sub.c6 | apply Sub.c7 | apply Sub.c8 | apply Sub.c9 | apply Sub.c10 | apply Sub.c11 | exact Sub.refl _)) noRo fun w h => ?_
            try dsimp only [List.set, setL, List.eraseIdx, List.cons_append, List.nil_append, List.append_nil, Nat.zero_add, Nat.reduceAdd, Sl.v] at h
            refine t_nyes rfl (t_nyes rfl (t_false (by simp) (t_nyes rfl ?_)))
            exact t_jmp ⟨(some ⟨mb, 0, none⟩, some ⟨qb, 0, none⟩, ()), rfl, mb, qb, _, _, _, rfl, hok.reap, h.weak (by repeat (first | exact Weak.refl _ | apply Weak.c0 | apply Weak.c1 | apply Weak.c2 | apply Weak.c3 | apply Weak.c4 | apply Weak.c5 | apply Weak.c6 | apply Weak.c7 | apply Weak.c8 | apply Weak.c9 | apply Weak.c10 | apply Weak.c11 | apply Weak.drop))⟩
          refine t_if (fun k2 => ?_) (fun k2 => ?_)
          · have hbk : 0 ≤ q.back.at_ ∧ q.back.at_ < q.l.size := hq.ok.back
            have hyy := layCheck_ok hck
            replace h : St w0 W w (kqR xb kb (M.kOf q since) :: _ :: _ :: _ :: _ :: _ :: B) := h.pick 3 rfl
            obtain ⟨s, h⟩ := kq_open h
            refine t_tickS h fun w h => ?_
            repeat (first
              | refine t_tickS h fun w h => ?_
              | refine t_keepN ?_
              | refine t_ldB h 0 rfl rfl ?_
              | refine t_ldB h 1 rfl rfl ?_
              | refine t_ldB h 2 rfl rfl ?_
              | refine t_ldB h 3 rfl rfl ?_
              | refine t_ldB h 4 rfl rfl ?_
              | refine t_ldB h 5 rfl rfl ?_
              | refine t_ldB h 6 rfl rfl ?_
              | refine t_ldB h 7 rfl rfl ?_
              | refine t_ldB h 8 rfl rfl ?_
              | refine t_ldB h 9 rfl rfl ?_
              | refine t_ldO h 0 rfl rfl rfl ?_
              | refine t_ldO h 1 rfl rfl rfl ?_
              | refine t_ldO h 2 rfl rfl rfl ?_
              | refine t_ldO h 3 rfl rfl rfl ?_
              | refine t_ldO h 4 rfl rfl rfl ?_
              | refine t_ldO h 5 rfl rfl rfl ?_
              | refine t_ldO h 6 rfl rfl rfl ?_
              | refine t_ldO h 7 rfl rfl rfl ?_
              | refine t_ldO h 8 rfl rfl rfl ?_
              | refine t_ldO h 9 rfl rfl rfl ?_
              | refine t_keepB h 0 rfl rfl ?_
              | refine t_keepB h 1 rfl rfl ?_
              | refine t_keepB h 2 rfl rfl ?_
              | refine t_keepB h 3 rfl rfl ?_
              | refine t_keepB h 4 rfl rfl ?_
              | refine t_keepB h 5 rfl rfl ?_
              | refine t_keepB h 6 rfl rfl ?_
              | refine t_keepB h 7 rfl rfl ?_
              | refine t_keepB h 8 rfl rfl ?_
              | refine t_keepB h 9 rfl rfl ?_
              | (refine t_stB h 0 rfl (by simp [setL]) (by simp [Value.oneCell']) fun w h => ?_; try dsimp only [List.set, setL, List.eraseIdx, List.cons_append, List.nil_append, List.append_nil, Nat.zero_add, Nat.reduceAdd, Sl.v] at h)
              | (refine t_stB h 1 rfl (by simp [setL]) (by simp [Value.oneCell']) fun w h => ?_; try dsimp only [List.set, setL, List.eraseIdx, List.cons_append, List.nil_append, List.append_nil, Nat.zero_add, Nat.reduceAdd, Sl.v] at h)
              | (refine t_stB h 2 rfl (by simp [setL]) (by simp [Value.oneCell']) fun w h => ?_; try dsimp only [List.set, setL, List.eraseIdx, List.cons_append, List.nil_append, List.append_nil, Nat.zero_add, Nat.reduceAdd, Sl.v] at h)
              | (refine t_stB h 3 rfl (by simp [setL]) (by simp [Value.oneCell']) fun w h => ?_; try dsimp only [List.set, setL, List.eraseIdx, List.cons_append, List.nil_append, List.append_nil, Nat.zero_add, Nat.reduceAdd, Sl.v] at h)
              | (refine t_stB h 4 rfl (by simp [setL]) (by simp [Value.oneCell']) fun w h => ?_; try dsimp only [List.set, setL, List.eraseIdx, List.cons_append, List.nil_append, List.append_nil, Nat.zero_add, Nat.reduceAdd, Sl.v] at h)
              | (refine t_stB h 5 rfl (by simp [setL]) (by simp [Value.oneCell']) fun w h => ?_; try dsimp only [List.set, setL, List.eraseIdx, List.cons_append, List.nil_append, List.append_nil, Nat.zero_add, Nat.reduceAdd, Sl.v] at h)
              | (refine t_stB h 6 rfl (by simp [setL]) (by simp [Value.oneCell']) fun w h => ?_; try dsimp only [List.set, setL, List.eraseIdx, List.cons_append, List.nil_append, List.append_nil, Nat.zero_add, Nat.reduceAdd, Sl.v] at h)
              | (refine t_stB h 7 rfl (by simp [setL]) (by simp [Value.oneCell']) fun w h => ?_; try dsimp only [List.set, setL, List.eraseIdx, List.cons_append, List.nil_append, List.append_nil, Nat.zero_add, Nat.reduceAdd, Sl.v] at h)
              | (refine t_stB h 8 rfl (by simp [setL]) (by simp [Value.oneCell']) fun w h => ?_; try dsimp only [List.set, setL, List.eraseIdx, List.cons_append, List.nil_append, List.append_nil, Nat.zero_add, Nat.reduceAdd, Sl.v] at h)
              | (refine t_stB h 9 rfl (by simp [setL]) (by simp [Value.oneCell']) fun w h => ?_; try dsimp only [List.set, setL, List.eraseIdx, List.cons_append, List.nil_append, List.append_nil, Nat.zero_add, Nat.reduceAdd, Sl.v] at h)
              | refine t_newB h (by simp [Value.oneCell']) fun w b h hb => ?_
              | refine t_nil ?_
              | refine t_true rfl ?_
              | refine t_false rfl ?_
              | refine t_yes rfl ?_
              | refine t_nyes rfl ?_
              | refine t_no (by decide) ?_
              | refine t_nno (by decide) ?_
              | refine t_need (by decide) ?_)
            try dsimp only [List.set, setL, List.eraseIdx, List.cons_append, List.nil_append, List.append_nil, Nat.zero_add, Nat.reduceAdd, Sl.v] at h
            first | refine t_fn (used_con o q.back.wrap) h (by repeat (first | exact Sub.nil _ | apply Sub.c0 | apply Sub.c1 | apply Sub.c2 | apply Sub.c3 | apply Sub.c4 | apply Sub.c5 | apply Sub.c6 | apply Sub.c7 | apply Sub.c8 | apply Sub.c9 | apply Sub.c10 | apply Sub.c11 | exact Sub.refl _)) noRo fun w h => ?_ | refine t_fnn (used_con o q.back.wrap) h (by repeat (first | exact Sub.nil _ | apply Sub.c0 | apply Sub.c1 | apply Sub.c2 | apply Sub.c3 | apply Sub.c4 | apply Sub.c5 | apply Sub.c6 | apply Sub.c7 | apply Sub.c8 | apply Sub.c9 | apply Sub.c10 | apply Sub.c11 | exact Sub.refl _)) noRo fun w h => ?_
            try dsimp only [List.set, setL, List.eraseIdx, List.cons_append, List.nil_append, List.append_nil, Nat.zero_add, Nat.reduceAdd, Sl.v] at h
            dsimp only [M.kOf]
            rw [w64 (n := 16 * q.back.at_) (by omega), w64 (n := q.l.ring + 16 * q.back.at_) (by omega), w64 (n := q.l.ring + 16 * q.back.at_ + 8) (by omega)]
            first | refine t_fn (gmem_Write_fn (q.l.ring + 16 * q.back.at_ + 8) (M.usedB o.n o.id (q.back.wrap == o.wrap)) (by unfold i64R; omega) (by rw [usedB_length]; decide)) h (by repeat (first | exact Sub.nil _ | apply Sub.c0 | apply Sub.c1 | apply Sub.c2 | apply Sub.c3 | apply Sub.c4 | apply Sub.c5 | apply Sub.c6 | apply Sub.c7 | apply Sub.c8 | apply Sub.c9 | apply Sub.c10 | apply Sub.c11 | exact Sub.refl _)) noRo fun w h => ?_ | refine t_fnn (gmem_Write_fn (q.l.ring + 16 * q.back.at_ + 8) (M.usedB o.n o.id (q.back.wrap == o.wrap)) (by unfold i64R; omega) (by rw [usedB_length]; decide)) h (by repeat (first | exact Sub.nil _ | apply Sub.c0 | apply Sub.c1 | apply Sub.c2 | apply Sub.c3 | apply Sub.c4 | apply Sub.c5 | apply Sub.c6 | apply Sub.c7 | apply Sub.c8 | apply Sub.c9 | apply Sub.c10 | apply Sub.c11 | exact Sub.refl _)) noRo fun w h => ?_
            try dsimp only [List.set, setL, List.eraseIdx, List.cons_append, List.nil_append, List.append_nil, Nat.zero_add, Nat.reduceAdd, Sl.v] at h
            repeat (first
              | refine t_tickS h fun w h => ?_
              | refine t_keepN ?_
              | refine t_ldB h 0 rfl rfl ?_
              | refine t_ldB h 1 rfl rfl ?_
              | refine t_ldB h 2 rfl rfl ?_
              | refine t_ldB h 3 rfl rfl ?_
              | refine t_ldB h 4 rfl rfl ?_
              | refine t_ldB h 5 rfl rfl ?_
              | refine t_ldB h 6 rfl rfl ?_
              | refine t_ldB h 7 rfl rfl ?_
              | refine t_ldB h 8 rfl rfl ?_
              | refine t_ldB h 9 rfl rfl ?_
              | refine t_ldO h 0 rfl rfl rfl ?_
              | refine t_ldO h 1 rfl rfl rfl ?_
              | refine t_ldO h 2 rfl rfl rfl ?_
              | refine t_ldO h 3 rfl rfl rfl ?_
              | refine t_ldO h 4 rfl rfl rfl ?_
              | refine t_ldO h 5 rfl rfl rfl ?_
              | refine t_ldO h 6 rfl rfl rfl ?_
              | refine t_ldO h 7 rfl rfl rfl ?_
              | refine t_ldO h 8 rfl rfl rfl ?_
              | refine t_ldO h 9 rfl rfl rfl ?_
              | refine t_keepB h 0 rfl rfl ?_
              | refine t_keepB h 1 rfl rfl ?_
              | refine t_keepB h 2 rfl rfl ?_
              | refine t_keepB h 3 rfl rfl ?_
              | refine t_keepB h 4 rfl rfl ?_
              | refine t_keepB h 5 rfl rfl ?_
              | refine t_keepB h 6 rfl rfl ?_
              | refine t_keepB h 7 rfl rfl ?_
              | refine t_keepB h 8 rfl rfl ?_
              | refine t_keepB h 9 rfl rfl ?_
              | (refine t_stB h 0 rfl (by simp [setL]) (by simp [Value.oneCell']) fun w h => ?_; try dsimp only [List.set, setL, List.eraseIdx, List.cons_append, List.nil_append, List.append_nil, Nat.zero_add, Nat.reduceAdd, Sl.v] at h)
              | (refine t_stB h 1 rfl (by simp [setL]) (by simp [Value.oneCell']) fun w h => ?_; try dsimp only [List.set, setL, List.eraseIdx, List.cons_append, List.nil_append, List.append_nil, Nat.zero_add, Nat.reduceAdd, Sl.v] at h)
              | (refine t_stB h 2 rfl (by simp [setL]) (by simp [Value.oneCell']) fun w h => ?_; try dsimp only [List.set, setL, List.eraseIdx, List.cons_append, List.nil_append, List.append_nil, Nat.zero_add, Nat.reduceAdd, Sl.v] at h)
              | (refine t_stB h 3 rfl (by simp [setL]) (by simp [Value.oneCell']) fun w h => ?_; try dsimp only [List.set, setL, List.eraseIdx, List.cons_append, List.nil_append, List.append_nil, Nat.zero_add, Nat.reduceAdd, Sl.v] at h)
              | (refine t_stB h 4 rfl (by simp [setL]) (by simp [Value.oneCell']) fun w h => ?_; try dsimp only [List.set, setL, List.eraseIdx, List.cons_append, List.nil_append, List.append_nil, Nat.zero_add, Nat.reduceAdd, Sl.v] at h)
              | (refine t_stB h 5 rfl (by simp [setL]) (by simp [Value.oneCell']) fun w h => ?_; try dsimp only [List.set, setL, List.eraseIdx, List.cons_append, List.nil_append, List.append_nil, Nat.zero_add, Nat.reduceAdd, Sl.v] at h)
              | (refine t_stB h 6 rfl (by simp [setL]) (by simp [Value.oneCell']) fun w h => ?_; try dsimp only [List.set, setL, List.eraseIdx, List.cons_append, List.nil_append, List.append_nil, Nat.zero_add, Nat.reduceAdd, Sl.v] at h)
              | (refine t_stB h 7 rfl (by simp [setL]) (by simp [Value.oneCell']) fun w h => ?_; try dsimp only [List.set, setL, List.eraseIdx, List.cons_append, List.nil_append, List.append_nil, Nat.zero_add, Nat.reduceAdd, Sl.v] at h)
              | (refine t_stB h 8 rfl (by simp [setL]) (by simp [Value.oneCell']) fun w h => ?_; try dsimp only [List.set, setL, List.eraseIdx, List.cons_append, List.nil_append, List.append_nil, Nat.zero_add, Nat.reduceAdd, Sl.v] at h)
              | (refine t_stB h 9 rfl (by simp [setL]) (by simp [Value.oneCell']) fun w h => ?_; try dsimp only [List.set, setL, List.eraseIdx, List.cons_append, List.nil_append, List.append_nil, Nat.zero_add, Nat.reduceAdd, Sl.v] at h)
              | refine t_newB h (by simp [Value.oneCell']) fun w b h hb => ?_
              | refine t_nil ?_
              | refine t_true rfl ?_
              | refine t_false rfl ?_
              | refine t_yes rfl ?_
              | refine t_nyes rfl ?_
              | refine t_no (by decide) ?_
              | refine t_nno (by decide) ?_
              | refine t_need (by decide) ?_)
            try dsimp only [List.set, setL, List.eraseIdx, List.cons_append, List.nil_append, List.append_nil, Nat.zero_add, Nat.reduceAdd, Sl.v] at h
            first | refine t_fn (used_con o q.back.wrap) h (by repeat (first | exact Sub.nil _ | apply Sub.c0 | apply Sub.c1 | apply Sub.c2 | apply Sub.c3 | apply Sub.c4 | apply Sub.c5 | apply Sub.c6 | apply Sub.c7 | apply Sub.c8 | apply Sub.c9 | apply Sub.c10 | apply Sub.c11 | exact Sub.refl _)) noRo fun w h => ?_ | refine t_fnn (used_con o q.back.wrap) h (by repeat (first | exact Sub.nil _ | apply Sub.c0 | apply Sub.c1 | apply Sub.c2 | apply Sub.c3 | apply Sub.c4 | apply Sub.c5 | apply Sub.c6 | apply Sub.c7 | apply Sub.c8 | apply Sub.c9 | apply Sub.c10 | apply Sub.c11 | exact Sub.refl _)) noRo fun w h => ?_
            try dsimp only [List.set, setL, List.eraseIdx, List.cons_append, List.nil_append, List.append_nil, Nat.zero_add, Nat.reduceAdd, Sl.v] at h
            repeat (first
              | refine t_tickS h fun w h => ?_
              | refine t_keepN ?_
              | refine t_ldB h 0 rfl rfl ?_
              | refine t_ldB h 1 rfl rfl ?_
              | refine t_ldB h 2 rfl rfl ?_
              | refine t_ldB h 3 rfl rfl ?_
              | refine t_ldB h 4 rfl rfl ?_
              | refine t_ldB h 5 rfl rfl ?_
              | refine t_ldB h 6 rfl rfl ?_
              | refine t_ldB h 7 rfl rfl ?_
              | refine t_ldB h 8 rfl rfl ?_
              | refine t_ldB h 9 rfl rfl ?_
              | refine t_ldO h 0 rfl rfl rfl ?_
              | refine t_ldO h 1 rfl rfl rfl ?_
              | refine t_ldO h 2 rfl rfl rfl ?_
              | refine t_ldO h 3 rfl rfl rfl ?_
              | refine t_ldO h 4 rfl rfl rfl ?_
              | refine t_ldO h 5 rfl rfl rfl ?_
              | refine t_ldO h 6 rfl rfl rfl ?_
              | refine t_ldO h 7 rfl rfl rfl ?_
              | refine t_ldO h 8 rfl rfl rfl ?_
              | refine t_ldO h 9 rfl rfl rfl ?_
              | refine t_keepB h 0 rfl rfl ?_
              | refine t_keepB h 1 rfl rfl ?_
              | refine t_keepB h 2 rfl rfl ?_
              | refine t_keepB h 3 rfl rfl ?_
              | refine t_keepB h 4 rfl rfl ?_
              | refine t_keepB h 5 rfl rfl ?_
              | refine t_keepB h 6 rfl rfl ?_
              | refine t_keepB h 7 rfl rfl ?_
              | refine t_keepB h 8 rfl rfl ?_
              | refine t_keepB h 9 rfl rfl ?_
              | (refine t_stB h 0 rfl (by simp [setL]) (by simp [Value.oneCell']) fun w h => ?_; try dsimp only [List.set, setL, List.eraseIdx, List.cons_append, List.nil_append, List.append_nil, Nat.zero_add, Nat.reduceAdd, Sl.v] at h)
              | (refine t_stB h 1 rfl (by simp [setL]) (by simp [Value.oneCell']) fun w h => ?_; try dsimp only [List.set, setL, List.eraseIdx, List.cons_append, List.nil_append, List.append_nil, Nat.zero_add, Nat.reduceAdd, Sl.v] at h)
              | (refine t_stB h 2 rfl (by simp [setL]) (by simp [Value.oneCell']) fun w h => ?_; try dsimp only [List.set, setL, List.eraseIdx, List.cons_append, List.nil_append, List.append_nil, Nat.zero_add, Nat.reduceAdd, Sl.v] at h)
              | (refine t_stB h 3 rfl (by simp [setL]) (by simp [Value.oneCell']) fun w h => ?_; try dsimp only [List.set, setL, List.eraseIdx, List.cons_append, List.nil_append, List.append_nil, Nat.zero_add, Nat.reduceAdd, Sl.v] at h)
              | (refine t_stB h 4 rfl (by simp [setL]) (by simp [Value.oneCell']) fun w h => ?_; try dsimp only [List.set, setL, List.eraseIdx, List.cons_append, List.nil_append, List.append_nil, Nat.zero_add, Nat.reduceAdd, Sl.v] at h)
              | (refine t_stB h 5 rfl (by simp [setL]) (by simp [Value.oneCell']) fun w h => ?_; try dsimp only [List.set, setL, List.eraseIdx, List.cons_append, List.nil_append, List.append_nil, Nat.zero_add, Nat.reduceAdd, Sl.v] at h)
              | (refine t_stB h 6 rfl (by simp [setL]) (by simp [Value.oneCell']) fun w h => ?_; try dsimp only [List.set, setL, List.eraseIdx, List.cons_append, List.nil_append, List.append_nil, Nat.zero_add, Nat.reduceAdd, Sl.v] at h)
              | (refine t_stB h 7 rfl (by simp [setL]) (by simp [Value.oneCell']) fun w h => ?_; try dsimp only [List.set, setL, List.eraseIdx, List.cons_append, List.nil_append, List.append_nil, Nat.zero_add, Nat.reduceAdd, Sl.v] at h)
              | (refine t_stB h 8 rfl (by simp [setL]) (by simp [Value.oneCell']) fun w h => ?_; try dsimp only [List.set, setL, List.eraseIdx, List.cons_append, List.nil_append, List.append_nil, Nat.zero_add, Nat.reduceAdd, Sl.v] at h)
              | (refine t_stB h 9 rfl (by simp [setL]) (by simp [Value.oneCell']) fun w h => ?_; try dsimp only [List.set, setL, List.eraseIdx, List.cons_append, List.nil_append, List.append_nil, Nat.zero_add, Nat.reduceAdd, Sl.v] at h)
              | refine t_newB h (by simp [Value.oneCell']) fun w b h hb => ?_
              | refine t_nil ?_
              | refine t_true rfl ?_
              | refine t_false rfl ?_
              | refine t_yes rfl ?_
              | refine t_nyes rfl ?_
              | refine t_no (by decide) ?_
              | refine t_nno (by decide) ?_
              | refine t_need (by decide) ?_)
            try dsimp only [List.set, setL, List.eraseIdx, List.cons_append, List.nil_append, List.append_nil, Nat.zero_add, Nat.reduceAdd, Sl.v] at h
            first | refine t_fn (R4_Write_con (q.l.ring + 16 * q.back.at_ + 8) (M.usedB o.n o.id (q.back.wrap == o.wrap)) (by unfold i64R; omega) (by rw [usedB_length]; decide)) h (by repeat (first | exact Sub.nil _ | apply Sub.c0 | apply Sub.c1 | apply Sub.c2 | apply Sub.c3 | apply Sub.c4 | apply Sub.c5 | apply Sub.c6 | apply Sub.c7 | apply Sub.c8 | apply Sub.c9 | apply Sub.c10 | apply Sub.c11 | exact Sub.refl _)) noRo fun w h => ?_ | refine t_fnn (R4_Write_con (q.l.ring + 16 * q.back.at_ + 8) (M.usedB o.n o.id (q.back.wrap == o.wrap)) (by unfold i64R; omega) (by rw [usedB_length]; decide)) h (by repeat (first | exact Sub.nil _ | apply Sub.c0 | apply Sub.c1 | apply Sub.c2 | apply Sub.c3 | apply Sub.c4 | apply Sub.c5 | apply Sub.c6 | apply Sub.c7 | apply Sub.c8 | apply Sub.c9 | apply Sub.c10 | apply Sub.c11 | exact Sub.refl _)) noRo fun w h => ?_
            try dsimp only [List.set, setL, List.eraseIdx, List.cons_append, List.nil_append, List.append_nil, Nat.zero_add, Nat.reduceAdd, Sl.v] at h
            replace h := kq_shut (M.kOf q since) h (by repeat (first | exact Sub.nil _ | apply Sub.c0 | apply Sub.c1 | apply Sub.c2 | apply Sub.c3 | apply Sub.c4 | apply Sub.c5 | apply Sub.c6 | apply Sub.c7 | apply Sub.c8 | apply Sub.c9 | apply Sub.c10 | apply Sub.c11 | exact Sub.refl _))
            exact t_jmp ⟨(some ⟨mb, 0, none⟩, some ⟨qb, 0, none⟩, ()), rfl, mb, qb, _, M.writeM l (q.l.ring + 16 * q.back.at_ + 8) (M.usedB o.n o.id (q.back.wrap == o.wrap)), since, rfl, hok.mem (writeM_length _ _ _), h.weak (by repeat (first | exact Weak.refl _ | apply Weak.c0 | apply Weak.c1 | apply Weak.c2 | apply Weak.c3 | apply Weak.c4 | apply Weak.c5 | apply Weak.c6 | apply Weak.c7 | apply Weak.c8 | apply Weak.c9 | apply Weak.c10 | apply Weak.c11 | apply Weak.drop))⟩
          refine t_if (fun k3 => ?_) (fun k3 => ?_)
          · replace h : St w0 W w (kqR xb kb (M.kOf q since) :: _ :: _ :: _ :: _ :: _ :: B) := h.pick 3 rfl
            obtain ⟨s, h⟩ := kq_open h
            refine t_tickS h fun w h => ?_
            repeat (first
              | refine t_tickS h fun w h => ?_
              | refine t_keepN ?_
              | refine t_ldB h 0 rfl rfl ?_
              | refine t_ldB h 1 rfl rfl ?_
              | refine t_ldB h 2 rfl rfl ?_
              | refine t_ldB h 3 rfl rfl ?_
              | refine t_ldB h 4 rfl rfl ?_
              | refine t_ldB h 5 rfl rfl ?_
              | refine t_ldB h 6 rfl rfl ?_
              | refine t_ldB h 7 rfl rfl ?_
              | refine t_ldB h 8 rfl rfl ?_
              | refine t_ldB h 9 rfl rfl ?_
              | refine t_ldO h 0 rfl rfl rfl ?_
              | refine t_ldO h 1 rfl rfl rfl ?_
              | refine t_ldO h 2 rfl rfl rfl ?_
              | refine t_ldO h 3 rfl rfl rfl ?_
              | refine t_ldO h 4 rfl rfl rfl ?_
              | refine t_ldO h 5 rfl rfl rfl ?_
              | refine t_ldO h 6 rfl rfl rfl ?_
              | refine t_ldO h 7 rfl rfl rfl ?_
              | refine t_ldO h 8 rfl rfl rfl ?_
              | refine t_ldO h 9 rfl rfl rfl ?_
              | refine t_keepB h 0 rfl rfl ?_
              | refine t_keepB h 1 rfl rfl ?_
              | refine t_keepB h 2 rfl rfl ?_
              | refine t_keepB h 3 rfl rfl ?_
              | refine t_keepB h 4 rfl rfl ?_
              | refine t_keepB h 5 rfl rfl ?_
              | refine t_keepB h 6 rfl rfl ?_
              | refine t_keepB h 7 rfl rfl ?_
              | refine t_keepB h 8 rfl rfl ?_
              | refine t_keepB h 9 rfl rfl ?_
              | (refine t_stB h 0 rfl (by simp [setL]) (by simp [Value.oneCell']) fun w h => ?_; try dsimp only [List.set, setL, List.eraseIdx, List.cons_append, List.nil_append, List.append_nil, Nat.zero_add, Nat.reduceAdd, Sl.v] at h)
              | (refine t_stB h 1 rfl (by simp [setL]) (by simp [Value.oneCell']) fun w h => ?_; try dsimp only [List.set, setL, List.eraseIdx, List.cons_append, List.nil_append, List.append_nil, Nat.zero_add, Nat.reduceAdd, Sl.v] at h)
              | (refine t_stB h 2 rfl (by simp [setL]) (by simp [Value.oneCell']) fun w h => ?_; try dsimp only [List.set, setL, List.eraseIdx, List.cons_append, List.nil_append, List.append_nil, Nat.zero_add, Nat.reduceAdd, Sl.v] at h)
              | (refine t_stB h 3 rfl (by simp [setL]) (by simp [Value.oneCell']) fun w h => ?_; try dsimp only [List.set, setL, List.eraseIdx, List.cons_append, List.nil_append, List.append_nil, Nat.zero_add, Nat.reduceAdd, Sl.v] at h)
              | (refine t_stB h 4 rfl (by simp [setL]) (by simp [Value.oneCell']) fun w h => ?_; try dsimp only [List.set, setL, List.eraseIdx, List.cons_append, List.nil_append, List.append_nil, Nat.zero_add, Nat.reduceAdd, Sl.v] at h)
              | (refine t_stB h 5 rfl (by simp [setL]) (by simp [Value.oneCell']) fun w h => ?_; try dsimp only [List.set, setL, List.eraseIdx, List.cons_append, List.nil_append, List.append_nil, Nat.zero_add, Nat.reduceAdd, Sl.v] at h)
              | (refine t_stB h 6 rfl (by simp [setL]) (by simp [Value.oneCell']) fun w h => ?_; try dsimp only [List.set, setL, List.eraseIdx, List.cons_append, List.nil_append, List.append_nil, Nat.zero_add, Nat.reduceAdd, Sl.v] at h)
              | (refine t_stB h 7 rfl (by simp [setL]) (by simp [Value.oneCell']) fun w h => ?_; try dsimp only [List.set, setL, List.eraseIdx, List.cons_append, List.nil_append, List.append_nil, Nat.zero_add, Nat.reduceAdd, Sl.v] at h)
              | (refine t_stB h 8 rfl (by simp [setL]) (by simp [Value.oneCell']) fun w h => ?_; try dsimp only [List.set, setL, List.eraseIdx, List.cons_append, List.nil_append, List.append_nil, Nat.zero_add, Nat.reduceAdd, Sl.v] at h)
              | (refine t_stB h 9 rfl (by simp [setL]) (by simp [Value.oneCell']) fun w h => ?_; try dsimp only [List.set, setL, List.eraseIdx, List.cons_append, List.nil_append, List.append_nil, Nat.zero_add, Nat.reduceAdd, Sl.v] at h)
              | refine t_newB h (by simp [Value.oneCell']) fun w b h hb => ?_
              | refine t_nil ?_
              | refine t_true rfl ?_
              | refine t_false rfl ?_
              | refine t_yes rfl ?_
              | refine t_nyes rfl ?_
              | refine t_no (by decide) ?_
              | refine t_nno (by decide) ?_
              | refine t_need (by decide) ?_)
            try dsimp only [List.set, setL, List.eraseIdx, List.cons_append, List.nil_append, List.append_nil, Nat.zero_add, Nat.reduceAdd, Sl.v] at h
            have hb := band_le o.at_ 4095 (by decide) (by decide)
            have hi2 : 0 ≤ imn (o.s.length : Int) 200 ∧ imn (o.s.length : Int) 200 ≤ o.s.length ∧ imn (o.s.length : Int) 200 ≤ 200 := by unfold imn; split <;> omega
            rw [mkB_size]
            refine t_need (by omega) ?_
            rw [mkB_extract]
            generalize hx3 : (List.take (imn (o.s.length : Int) 200).toNat o.s).drop 0 = t3
            have hx4 : t3.length ≤ 140737488355328 := by rw [← hx3]; simp; omega
            first | refine t_fn (gmem_Write_fn (band .i64 o.at_ 4095) t3 (by unfold i64R; omega) hx4) h (by repeat (first | exact Sub.nil _ | apply Sub.c0 | apply Sub.c1 | apply Sub.c2 | apply Sub.c3 | apply Sub.c4 | apply Sub.c5 | apply Sub.c6 | apply Sub.c7 | apply Sub.c8 | apply Sub.c9 | apply Sub.c10 | apply Sub.c11 | exact Sub.refl _)) noRo fun w h => ?_ | refine t_fnn (gmem_Write_fn (band .i64 o.at_ 4095) t3 (by unfold i64R; omega) hx4) h (by repeat (first | exact Sub.nil _ | apply Sub.c0 | apply Sub.c1 | apply Sub.c2 | apply Sub.c3 | apply Sub.c4 | apply Sub.c5 | apply Sub.c6 | apply Sub.c7 | apply Sub.c8 | apply Sub.c9 | apply Sub.c10 | apply Sub.c11 | exact Sub.refl _)) noRo fun w h => ?_
            try dsimp only [List.set, setL, List.eraseIdx, List.cons_append, List.nil_append, List.append_nil, Nat.zero_add, Nat.reduceAdd, Sl.v] at h
            repeat (first
              | refine t_tickS h fun w h => ?_
              | refine t_keepN ?_
              | refine t_ldB h 0 rfl rfl ?_
              | refine t_ldB h 1 rfl rfl ?_
              | refine t_ldB h 2 rfl rfl ?_
              | refine t_ldB h 3 rfl rfl ?_
              | refine t_ldB h 4 rfl rfl ?_
              | refine t_ldB h 5 rfl rfl ?_
              | refine t_ldB h 6 rfl rfl ?_
              | refine t_ldB h 7 rfl rfl ?_
              | refine t_ldB h 8 rfl rfl ?_
              | refine t_ldB h 9 rfl rfl ?_
              | refine t_ldO h 0 rfl rfl rfl ?_
              | refine t_ldO h 1 rfl rfl rfl ?_
              | refine t_ldO h 2 rfl rfl rfl ?_
              | refine t_ldO h 3 rfl rfl rfl ?_
              | refine t_ldO h 4 rfl rfl rfl ?_
              | refine t_ldO h 5 rfl rfl rfl ?_
              | refine t_ldO h 6 rfl rfl rfl ?_
              | refine t_ldO h 7 rfl rfl rfl ?_
              | refine t_ldO h 8 rfl rfl rfl ?_
              | refine t_ldO h 9 rfl rfl rfl ?_
              | refine t_keepB h 0 rfl rfl ?_
              | refine t_keepB h 1 rfl rfl ?_
              | refine t_keepB h 2 rfl rfl ?_
              | refine t_keepB h 3 rfl rfl ?_
              | refine t_keepB h 4 rfl rfl ?_
              | refine t_keepB h 5 rfl rfl ?_
              | refine t_keepB h 6 rfl rfl ?_
              | refine t_keepB h 7 rfl rfl ?_
              | refine t_keepB h 8 rfl rfl ?_
              | refine t_keepB h 9 rfl rfl ?_
              | (refine t_stB h 0 rfl (by simp [setL]) (by simp [Value.oneCell']) fun w h => ?_; try dsimp only [List.set, setL, List.eraseIdx, List.cons_append, List.nil_append, List.append_nil, Nat.zero_add, Nat.reduceAdd, Sl.v] at h)
              | (refine t_stB h 1 rfl (by simp [setL]) (by simp [Value.oneCell']) fun w h => ?_; try dsimp only [List.set, setL, List.eraseIdx, List.cons_append, List.nil_append, List.append_nil, Nat.zero_add, Nat.reduceAdd, Sl.v] at h)
              | (refine t_stB h 2 rfl (by simp [setL]) (by simp [Value.oneCell']) fun w h => ?_; try dsimp only [List.set, setL, List.eraseIdx, List.cons_append, List.nil_append, List.append_nil, Nat.zero_add, Nat.reduceAdd, Sl.v] at h)
              | (refine t_stB h 3 rfl (by simp [setL]) (by simp [Value.oneCell']) fun w h => ?_; try dsimp only [List.set, setL, List.eraseIdx, List.cons_append, List.nil_append, List.append_nil, Nat.zero_add, Nat.reduceAdd, Sl.v] at h)
              | (refine t_stB h 4 rfl (by simp [setL]) (by simp [Value.oneCell']) fun w h => ?_; try dsimp only [List.set, setL, List.eraseIdx, List.cons_append, List.nil_append, List.append_nil, Nat.zero_add, Nat.reduceAdd, Sl.v] at h)
              | (refine t_stB h 5 rfl (by simp [setL]) (by simp [Value.oneCell']) fun w h => ?_; try dsimp only [List.set, setL, List.eraseIdx, List.cons_append, List.nil_append, List.append_nil, Nat.zero_add, Nat.reduceAdd, Sl.v] at h)
              | (refine t_stB h 6 rfl (by simp [setL]) (by simp [Value.oneCell']) fun w h => ?_; try dsimp only [List.set, setL, List.eraseIdx, List.cons_append, List.nil_append, List.append_nil, Nat.zero_add, Nat.reduceAdd, Sl.v] at h)
              | (refine t_stB h 7 rfl (by simp [setL]) (by simp [Value.oneCell']) fun w h => ?_; try dsimp only [List.set, setL, List.eraseIdx, List.cons_append, List.nil_append, List.append_nil, Nat.zero_add, Nat.reduceAdd, Sl.v] at h)
              | (refine t_stB h 8 rfl (by simp [setL]) (by simp [Value.oneCell']) fun w h => ?_; try dsimp only [List.set, setL, List.eraseIdx, List.cons_append, List.nil_append, List.append_nil, Nat.zero_add, Nat.reduceAdd, Sl.v] at h)
              | (refine t_stB h 9 rfl (by simp [setL]) (by simp [Value.oneCell']) fun w h => ?_; try dsimp only [List.set, setL, List.eraseIdx, List.cons_append, List.nil_append, List.append_nil, Nat.zero_add, Nat.reduceAdd, Sl.v] at h)
              | refine t_newB h (by simp [Value.oneCell']) fun w b h hb => ?_
              | refine t_nil ?_
              | refine t_true rfl ?_
              | refine t_false rfl ?_
              | refine t_yes rfl ?_
              | refine t_nyes rfl ?_
              | refine t_no (by decide) ?_
              | refine t_nno (by decide) ?_
              | refine t_need (by decide) ?_)
            try dsimp only [List.set, setL, List.eraseIdx, List.cons_append, List.nil_append, List.append_nil, Nat.zero_add, Nat.reduceAdd, Sl.v] at h
            rw [mkB_size]
            refine t_need (by omega) ?_
            rw [mkB_extract, hx3]
            first | refine t_fn (R4_Write_con (band .i64 o.at_ 4095) t3 (by unfold i64R; omega) hx4) h (by repeat (first | exact Sub.nil _ | apply Sub.c0 | apply Sub.c1 | apply Sub.c2 | apply Sub.c3 | apply Sub.c4 | apply Sub.c5 | apply Sub.c6 | apply Sub.c7 | apply Sub.c8 | apply Sub.c9 | apply Sub.c10 | apply Sub.c11 | exact Sub.refl _)) noRo fun w h => ?_ | refine t_fnn (R4_Write_con (band .i64 o.at_ 4095) t3 (by unfold i64R; omega) hx4) h (by repeat (first | exact Sub.nil _ | apply Sub.c0 | apply Sub.c1 | apply Sub.c2 | apply Sub.c3 | apply Sub.c4 | apply Sub.c5 | apply Sub.c6 | apply Sub.c7 | apply Sub.c8 | apply Sub.c9 | apply Sub.c10 | apply Sub.c11 | exact Sub.refl _)) noRo fun w h => ?_
            try dsimp only [List.set, setL, List.eraseIdx, List.cons_append, List.nil_append, List.append_nil, Nat.zero_add, Nat.reduceAdd, Sl.v] at h
            replace h := kq_shut (M.kOf q since) h (by repeat (first | exact Sub.nil _ | apply Sub.c0 | apply Sub.c1 | apply Sub.c2 | apply Sub.c3 | apply Sub.c4 | apply Sub.c5 | apply Sub.c6 | apply Sub.c7 | apply Sub.c8 | apply Sub.c9 | apply Sub.c10 | apply Sub.c11 | exact Sub.refl _))
            exact t_jmp ⟨(some ⟨mb, 0, none⟩, some ⟨qb, 0, none⟩, ()), rfl, mb, qb, _, M.writeM l (band .i64 o.at_ 4095) t3, since, rfl, hok.mem (writeM_length _ _ _), h.weak (by repeat (first | exact Weak.refl _ | apply Weak.c0 | apply Weak.c1 | apply Weak.c2 | apply Weak.c3 | apply Weak.c4 | apply Weak.c5 | apply Weak.c6 | apply Weak.c7 | apply Weak.c8 | apply Weak.c9 | apply Weak.c10 | apply Weak.c11 | apply Weak.drop))⟩
          refine t_if (fun k4 => ?_) (fun k4 => ?_)
          · first | refine t_fn (drvq_Tell_con hq hck (by omega)) h (by repeat (first | exact Sub.nil _ | apply Sub.c0 | apply Sub.c1 | apply Sub.c2 | apply Sub.c3 | apply Sub.c4 | apply Sub.c5 | apply Sub.c6 | apply Sub.c7 | apply Sub.c8 | apply Sub.c9 | apply Sub.c10 | apply Sub.c11 | exact Sub.refl _)) noRo fun w h => ?_ | refine t_fnn (drvq_Tell_con hq hck (by omega)) h (by repeat (first | exact Sub.nil _ | apply Sub.c0 | apply Sub.c1 | apply Sub.c2 | apply Sub.c3 | apply Sub.c4 | apply Sub.c5 | apply Sub.c6 | apply Sub.c7 | apply Sub.c8 | apply Sub.c9 | apply Sub.c10 | apply Sub.c11 | exact Sub.refl _)) noRo fun w h => ?_
            try dsimp only [List.set, setL, List.eraseIdx, List.cons_append, List.nil_append, List.append_nil, Nat.zero_add, Nat.reduceAdd, Sl.v] at h
            first | refine t_fn (R15_Tell_con hq ⟨hs0, by omega, hs2⟩ hck (by omega)) h (by repeat (first | exact Sub.nil _ | apply Sub.c0 | apply Sub.c1 | apply Sub.c2 | apply Sub.c3 | apply Sub.c4 | apply Sub.c5 | apply Sub.c6 | apply Sub.c7 | apply Sub.c8 | apply Sub.c9 | apply Sub.c10 | apply Sub.c11 | exact Sub.refl _)) noRo fun w h => ?_ | refine t_fnn (R15_Tell_con hq ⟨hs0, by omega, hs2⟩ hck (by omega)) h (by repeat (first | exact Sub.nil _ | apply Sub.c0 | apply Sub.c1 | apply Sub.c2 | apply Sub.c3 | apply Sub.c4 | apply Sub.c5 | apply Sub.c6 | apply Sub.c7 | apply Sub.c8 | apply Sub.c9 | apply Sub.c10 | apply Sub.c11 | exact Sub.refl _)) noRo fun w h => ?_
            try dsimp only [List.set, setL, List.eraseIdx, List.cons_append, List.nil_append, List.append_nil, Nat.zero_add, Nat.reduceAdd, Sl.v] at h
            refine t_false (by simp) ?_
            exact t_jmp ⟨(some ⟨mb, 0, none⟩, some ⟨qb, 0, none⟩, ()), rfl, mb, qb, _, _, _, rfl, hok.tell, h.weak (by repeat (first | exact Weak.refl _ | apply Weak.c0 | apply Weak.c1 | apply Weak.c2 | apply Weak.c3 | apply Weak.c4 | apply Weak.c5 | apply Weak.c6 | apply Weak.c7 | apply Weak.c8 | apply Weak.c9 | apply Weak.c10 | apply Weak.c11 | apply Weak.drop))⟩
          refine t_if (fun k5 => ?_) (fun k5 => ?_)
          · repeat (first
              | refine t_tickS h fun w h => ?_
              | refine t_keepN ?_
              | refine t_ldB h 0 rfl rfl ?_
              | refine t_ldB h 1 rfl rfl ?_
              | refine t_ldB h 2 rfl rfl ?_
              | refine t_ldB h 3 rfl rfl ?_
              | refine t_ldB h 4 rfl rfl ?_
              | refine t_ldB h 5 rfl rfl ?_
              | refine t_ldB h 6 rfl rfl ?_
              | refine t_ldB h 7 rfl rfl ?_
              | refine t_ldB h 8 rfl rfl ?_
              | refine t_ldB h 9 rfl rfl ?_
              | refine t_ldO h 0 rfl rfl rfl ?_
              | refine t_ldO h 1 rfl rfl rfl ?_
              | refine t_ldO h 2 rfl rfl rfl ?_
              | refine t_ldO h 3 rfl rfl rfl ?_
              | refine t_ldO h 4 rfl rfl rfl ?_
              | refine t_ldO h 5 rfl rfl rfl ?_
              | refine t_ldO h 6 rfl rfl rfl ?_
              | refine t_ldO h 7 rfl rfl rfl ?_
              | refine t_ldO h 8 rfl rfl rfl ?_
              | refine t_ldO h 9 rfl rfl rfl ?_
              | refine t_keepB h 0 rfl rfl ?_
              | refine t_keepB h 1 rfl rfl ?_
              | refine t_keepB h 2 rfl rfl ?_
              | refine t_keepB h 3 rfl rfl ?_
              | refine t_keepB h 4 rfl rfl ?_
              | refine t_keepB h 5 rfl rfl ?_
              | refine t_keepB h 6 rfl rfl ?_
              | refine t_keepB h 7 rfl rfl ?_
              | refine t_keepB h 8 rfl rfl ?_
              | refine t_keepB h 9 rfl rfl ?_
              | (refine t_stB h 0 rfl (by simp [setL]) (by simp [Value.oneCell']) fun w h => ?_; try dsimp only [List.set, setL, List.eraseIdx, List.cons_append, List.nil_append, List.append_nil, Nat.zero_add, Nat.reduceAdd, Sl.v] at h)
              | (refine t_stB h 1 rfl (by simp [setL]) (by simp [Value.oneCell']) fun w h => ?_; try dsimp only [List.set, setL, List.eraseIdx, List.cons_append, List.nil_append, List.append_nil, Nat.zero_add, Nat.reduceAdd, Sl.v] at h)
              | (refine t_stB h 2 rfl (by simp [setL]) (by simp [Value.oneCell']) fun w h => ?_; try dsimp only [List.set, setL, List.eraseIdx, List.cons_append, List.nil_append, List.append_nil, Nat.zero_add, Nat.reduceAdd, Sl.v] at h)
              | (refine t_stB h 3 rfl (by simp [setL]) (by simp [Value.oneCell']) fun w h => ?_; try dsimp only [List.set, setL, List.eraseIdx, List.cons_append, List.nil_append, List.append_nil, Nat.zero_add, Nat.reduceAdd, Sl.v] at h)
              | (refine t_stB h 4 rfl (by simp [setL]) (by simp [Value.oneCell']) fun w h => ?_; try dsimp only [List.set, setL, List.eraseIdx, List.cons_append, List.nil_append, List.append_nil, Nat.zero_add, Nat.reduceAdd, Sl.v] at h)
              | (refine t_stB h 5 rfl (by simp [setL]) (by simp [Value.oneCell']) fun w h => ?_; try dsimp only [List.set, setL, List.eraseIdx, List.cons_append, List.nil_append, List.append_nil, Nat.zero_add, Nat.reduceAdd, Sl.v] at h)
              | (refine t_stB h 6 rfl (by simp [setL]) (by simp [Value.oneCell']) fun w h => ?_; try dsimp only [List.set, setL, List.eraseIdx, List.cons_append, List.nil_append, List.append_nil, Nat.zero_add, Nat.reduceAdd, Sl.v] at h)
              | (refine t_stB h 7 rfl (by simp [setL]) (by simp [Value.oneCell']) fun w h => ?_; try dsimp only [List.set, setL, List.eraseIdx, List.cons_append, List.nil_append, List.append_nil, Nat.zero_add, Nat.reduceAdd, Sl.v] at h)
              | (refine t_stB h 8 rfl (by simp [setL]) (by simp [Value.oneCell']) fun w h => ?_; try dsimp only [List.set, setL, List.eraseIdx, List.cons_append, List.nil_append, List.append_nil, Nat.zero_add, Nat.reduceAdd, Sl.v] at h)
              | (refine t_stB h 9 rfl (by simp [setL]) (by simp [Value.oneCell']) fun w h => ?_; try dsimp only [List.set, setL, List.eraseIdx, List.cons_append, List.nil_append, List.append_nil, Nat.zero_add, Nat.reduceAdd, Sl.v] at h)
              | refine t_newB h (by simp [Value.oneCell']) fun w b h hb => ?_
              | refine t_nil ?_
              | refine t_true rfl ?_
              | refine t_false rfl ?_
              | refine t_yes rfl ?_
              | refine t_nyes rfl ?_
              | refine t_no (by decide) ?_
              | refine t_nno (by decide) ?_
              | refine t_need (by decide) ?_)
            try dsimp only [List.set, setL, List.eraseIdx, List.cons_append, List.nil_append, List.append_nil, Nat.zero_add, Nat.reduceAdd, Sl.v] at h
            first | refine t_fn (drvq_Ask_con ⟨o.off, o.ew, o.fl⟩ hoe hck (by omega)) h (by repeat (first | exact Sub.nil _ | apply Sub.c0 | apply Sub.c1 | apply Sub.c2 | apply Sub.c3 | apply Sub.c4 | apply Sub.c5 | apply Sub.c6 | apply Sub.c7 | apply Sub.c8 | apply Sub.c9 | apply Sub.c10 | apply Sub.c11 | exact Sub.refl _)) noRo fun w h => ?_ | refine t_fnn (drvq_Ask_con ⟨o.off, o.ew, o.fl⟩ hoe hck (by omega)) h (by repeat (first | exact Sub.nil _ | apply Sub.c0 | apply Sub.c1 | apply Sub.c2 | apply Sub.c3 | apply Sub.c4 | apply Sub.c5 | apply Sub.c6 | apply Sub.c7 | apply Sub.c8 | apply Sub.c9 | apply Sub.c10 | apply Sub.c11 | exact Sub.refl _)) noRo fun w h => ?_
            try dsimp only [List.set, setL, List.eraseIdx, List.cons_append, List.nil_append, List.append_nil, Nat.zero_add, Nat.reduceAdd, Sl.v] at h
            repeat (first
              | refine t_tickS h fun w h => ?_
              | refine t_keepN ?_
              | refine t_ldB h 0 rfl rfl ?_
              | refine t_ldB h 1 rfl rfl ?_
              | refine t_ldB h 2 rfl rfl ?_
              | refine t_ldB h 3 rfl rfl ?_
              | refine t_ldB h 4 rfl rfl ?_
              | refine t_ldB h 5 rfl rfl ?_
              | refine t_ldB h 6 rfl rfl ?_
              | refine t_ldB h 7 rfl rfl ?_
              | refine t_ldB h 8 rfl rfl ?_
              | refine t_ldB h 9 rfl rfl ?_
              | refine t_ldO h 0 rfl rfl rfl ?_
              | refine t_ldO h 1 rfl rfl rfl ?_
              | refine t_ldO h 2 rfl rfl rfl ?_
              | refine t_ldO h 3 rfl rfl rfl ?_
              | refine t_ldO h 4 rfl rfl rfl ?_
              | refine t_ldO h 5 rfl rfl rfl ?_
              | refine t_ldO h 6 rfl rfl rfl ?_
              | refine t_ldO h 7 rfl rfl rfl ?_
              | refine t_ldO h 8 rfl rfl rfl ?_
              | refine t_ldO h 9 rfl rfl rfl ?_
              | refine t_keepB h 0 rfl rfl ?_
              | refine t_keepB h 1 rfl rfl ?_
              | refine t_keepB h 2 rfl rfl ?_
              | refine t_keepB h 3 rfl rfl ?_
              | refine t_keepB h 4 rfl rfl ?_
              | refine t_keepB h 5 rfl rfl ?_
              | refine t_keepB h 6 rfl rfl ?_
              | refine t_keepB h 7 rfl rfl ?_
              | refine t_keepB h 8 rfl rfl ?_
              | refine t_keepB h 9 rfl rfl ?_
              | (refine t_stB h 0 rfl (by simp [setL]) (by simp [Value.oneCell']) fun w h => ?_; try dsimp only [List.set, setL, List.eraseIdx, List.cons_append, List.nil_append, List.append_nil, Nat.zero_add, Nat.reduceAdd, Sl.v] at h)
              | (refine t_stB h 1 rfl (by simp [setL]) (by simp [Value.oneCell']) fun w h => ?_; try dsimp only [List.set, setL, List.eraseIdx, List.cons_append, List.nil_append, List.append_nil, Nat.zero_add, Nat.reduceAdd, Sl.v] at h)
              | (refine t_stB h 2 rfl (by simp [setL]) (by simp [Value.oneCell']) fun w h => ?_; try dsimp only [List.set, setL, List.eraseIdx, List.cons_append, List.nil_append, List.append_nil, Nat.zero_add, Nat.reduceAdd, Sl.v] at h)
              | (refine t_stB h 3 rfl (by simp [setL]) (by simp [Value.oneCell']) fun w h => ?_; try dsimp only [List.set, setL, List.eraseIdx, List.cons_append, List.nil_append, List.append_nil, Nat.zero_add, Nat.reduceAdd, Sl.v] at h)
              | (refine t_stB h 4 rfl (by simp [setL]) (by simp [Value.oneCell']) fun w h => ?_; try dsimp only [List.set, setL, List.eraseIdx, List.cons_append, List.nil_append, List.append_nil, Nat.zero_add, Nat.reduceAdd, Sl.v] at h)
              | (refine t_stB h 5 rfl (by simp [setL]) (by simp [Value.oneCell']) fun w h => ?_; try dsimp only [List.set, setL, List.eraseIdx, List.cons_append, List.nil_append, List.append_nil, Nat.zero_add, Nat.reduceAdd, Sl.v] at h)
              | (refine t_stB h 6 rfl (by simp [setL]) (by simp [Value.oneCell']) fun w h => ?_; try dsimp only [List.set, setL, List.eraseIdx, List.cons_append, List.nil_append, List.append_nil, Nat.zero_add, Nat.reduceAdd, Sl.v] at h)
              | (refine t_stB h 7 rfl (by simp [setL]) (by simp [Value.oneCell']) fun w h => ?_; try dsimp only [List.set, setL, List.eraseIdx, List.cons_append, List.nil_append, List.append_nil, Nat.zero_add, Nat.reduceAdd, Sl.v] at h)
              | (refine t_stB h 8 rfl (by simp [setL]) (by simp [Value.oneCell']) fun w h => ?_; try dsimp only [List.set, setL, List.eraseIdx, List.cons_append, List.nil_append, List.append_nil, Nat.zero_add, Nat.reduceAdd, Sl.v] at h)
              | (refine t_stB h 9 rfl (by simp [setL]) (by simp [Value.oneCell']) fun w h => ?_; try dsimp only [List.set, setL, List.eraseIdx, List.cons_append, List.nil_append, List.append_nil, Nat.zero_add, Nat.reduceAdd, Sl.v] at h)
              | refine t_newB h (by simp [Value.oneCell']) fun w b h hb => ?_
              | refine t_nil ?_
              | refine t_true rfl ?_
              | refine t_false rfl ?_
              | refine t_yes rfl ?_
              | refine t_nyes rfl ?_
              | refine t_no (by decide) ?_
              | refine t_nno (by decide) ?_
              | refine t_need (by decide) ?_)
            try dsimp only [List.set, setL, List.eraseIdx, List.cons_append, List.nil_append, List.append_nil, Nat.zero_add, Nat.reduceAdd, Sl.v] at h
            first | refine t_fn (R15_Ask_con (since := since) ⟨o.off, o.ew, o.fl⟩ hoe hck (by omega)) h (by repeat (first | exact Sub.nil _ | apply Sub.c0 | apply Sub.c1 | apply Sub.c2 | apply Sub.c3 | apply Sub.c4 | apply Sub.c5 | apply Sub.c6 | apply Sub.c7 | apply Sub.c8 | apply Sub.c9 | apply Sub.c10 | apply Sub.c11 | exact Sub.refl _)) noRo fun w h => ?_ | refine t_fnn (R15_Ask_con (since := since) ⟨o.off, o.ew, o.fl⟩ hoe hck (by omega)) h (by repeat (first | exact Sub.nil _ | apply Sub.c0 | apply Sub.c1 | apply Sub.c2 | apply Sub.c3 | apply Sub.c4 | apply Sub.c5 | apply Sub.c6 | apply Sub.c7 | apply Sub.c8 | apply Sub.c9 | apply Sub.c10 | apply Sub.c11 | exact Sub.refl _)) noRo fun w h => ?_
            try dsimp only [List.set, setL, List.eraseIdx, List.cons_append, List.nil_append, List.append_nil, Nat.zero_add, Nat.reduceAdd, Sl.v] at h
            refine t_nyes rfl ?_
            exact t_jmp ⟨(some ⟨mb, 0, none⟩, some ⟨qb, 0, none⟩, ()), rfl, mb, qb, _, _, _, rfl, hok.mem (askM_length _ _ _), h.weak (by repeat (first | exact Weak.refl _ | apply Weak.c0 | apply Weak.c1 | apply Weak.c2 | apply Weak.c3 | apply Weak.c4 | apply Weak.c5 | apply Weak.c6 | apply Weak.c7 | apply Weak.c8 | apply Weak.c9 | apply Weak.c10 | apply Weak.c11 | apply Weak.drop))⟩
          refine t_if (fun k6 => ?_) (fun k6 => ?_)
          · first | refine t_fnE (gmem_Clone_con) h (by repeat (first | exact Sub.nil _ | apply Sub.c0 | apply Sub.c1 | apply Sub.c2 | apply Sub.c3 | apply Sub.c4 | apply Sub.c5 | apply Sub.c6 | apply Sub.c7 | apply Sub.c8 | apply Sub.c9 | apply Sub.c10 | apply Sub.c11 | exact Sub.refl _)) noRo ?_ | refine t_fnnE (gmem_Clone_con) h (by repeat (first | exact Sub.nil _ | apply Sub.c0 | apply Sub.c1 | apply Sub.c2 | apply Sub.c3 | apply Sub.c4 | apply Sub.c5 | apply Sub.c6 | apply Sub.c7 | apply Sub.c8 | apply Sub.c9 | apply Sub.c10 | apply Sub.c11 | exact Sub.refl _)) noRo ?_
            rintro _ post ⟨mb2, rfl, rfl⟩ w h
            try dsimp only [List.set, setL, List.eraseIdx, List.cons_append, List.nil_append, List.append_nil, Nat.zero_add, Nat.reduceAdd, Sl.v] at h
            first | refine t_fnE (drvq_Clone_con (mb' := mb2) (q := q)) h (by repeat (first | exact Sub.nil _ | apply Sub.c0 | apply Sub.c1 | apply Sub.c2 | apply Sub.c3 | apply Sub.c4 | apply Sub.c5 | apply Sub.c6 | apply Sub.c7 | apply Sub.c8 | apply Sub.c9 | apply Sub.c10 | apply Sub.c11 | exact Sub.refl _)) noRo ?_ | refine t_fnnE (drvq_Clone_con (mb' := mb2) (q := q)) h (by repeat (first | exact Sub.nil _ | apply Sub.c0 | apply Sub.c1 | apply Sub.c2 | apply Sub.c3 | apply Sub.c4 | apply Sub.c5 | apply Sub.c6 | apply Sub.c7 | apply Sub.c8 | apply Sub.c9 | apply Sub.c10 | apply Sub.c11 | exact Sub.refl _)) noRo ?_
            rintro _ post ⟨qb2, rfl, rfl⟩ w h
            try dsimp only [List.set, setL, List.eraseIdx, List.cons_append, List.nil_append, List.append_nil, Nat.zero_add, Nat.reduceAdd, Sl.v] at h
            repeat (first
              | refine t_tickS h fun w h => ?_
              | refine t_keepN ?_
              | refine t_ldB h 0 rfl rfl ?_
              | refine t_ldB h 1 rfl rfl ?_
              | refine t_ldB h 2 rfl rfl ?_
              | refine t_ldB h 3 rfl rfl ?_
              | refine t_ldB h 4 rfl rfl ?_
              | refine t_ldB h 5 rfl rfl ?_
              | refine t_ldB h 6 rfl rfl ?_
              | refine t_ldB h 7 rfl rfl ?_
              | refine t_ldB h 8 rfl rfl ?_
              | refine t_ldB h 9 rfl rfl ?_
              | refine t_ldO h 0 rfl rfl rfl ?_
              | refine t_ldO h 1 rfl rfl rfl ?_
              | refine t_ldO h 2 rfl rfl rfl ?_
              | refine t_ldO h 3 rfl rfl rfl ?_
              | refine t_ldO h 4 rfl rfl rfl ?_
              | refine t_ldO h 5 rfl rfl rfl ?_
              | refine t_ldO h 6 rfl rfl rfl ?_
              | refine t_ldO h 7 rfl rfl rfl ?_
              | refine t_ldO h 8 rfl rfl rfl ?_
              | refine t_ldO h 9 rfl rfl rfl ?_
              | refine t_keepB h 0 rfl rfl ?_
              | refine t_keepB h 1 rfl rfl ?_
              | refine t_keepB h 2 rfl rfl ?_
              | refine t_keepB h 3 rfl rfl ?_
              | refine t_keepB h 4 rfl rfl ?_
              | refine t_keepB h 5 rfl rfl ?_
              | refine t_keepB h 6 rfl rfl ?_
              | refine t_keepB h 7 rfl rfl ?_
              | refine t_keepB h 8 rfl rfl ?_
              | refine t_keepB h 9 rfl rfl ?_
              | (refine t_stB h 0 rfl (by simp [setL]) (by simp [Value.oneCell']) fun w h => ?_; try dsimp only [List.set, setL, List.eraseIdx, List.cons_append, List.nil_append, List.append_nil, Nat.zero_add, Nat.reduceAdd, Sl.v] at h)
              | (refine t_stB h 1 rfl (by simp [setL]) (by simp [Value.oneCell']) fun w h => ?_; try dsimp only [List.set, setL, List.eraseIdx, List.cons_append, List.nil_append, List.append_nil, Nat.zero_add, Nat.reduceAdd, Sl.v] at h)
              | (refine t_stB h 2 rfl (by simp [setL]) (by simp [Value.oneCell']) fun w h => ?_; try dsimp only [List.set, setL, List.eraseIdx, List.cons_append, List.nil_append, List.append_nil, Nat.zero_add, Nat.reduceAdd, Sl.v] at h)
              | (refine t_stB h 3 rfl (by simp [setL]) (by simp [Value.oneCell']) fun w h => ?_; try dsimp only [List.set, setL, List.eraseIdx, List.cons_append, List.nil_append, List.append_nil, Nat.zero_add, Nat.reduceAdd, Sl.v] at h)
              | (refine t_stB h 4 rfl (by simp [setL]) (by simp [Value.oneCell']) fun w h => ?_; try dsimp only [List.set, setL, List.eraseIdx, List.cons_append, List.nil_append, List.append_nil, Nat.zero_add, Nat.reduceAdd, Sl.v] at h)
              | (refine t_stB h 5 rfl (by simp [setL]) (by simp [Value.oneCell']) fun w h => ?_; try dsimp only [List.set, setL, List.eraseIdx, List.cons_append, List.nil_append, List.append_nil, Nat.zero_add, Nat.reduceAdd, Sl.v] at h)
              | (refine t_stB h 6 rfl (by simp [setL]) (by simp [Value.oneCell']) fun w h => ?_; try dsimp only [List.set, setL, List.eraseIdx, List.cons_append, List.nil_append, List.append_nil, Nat.zero_add, Nat.reduceAdd, Sl.v] at h)
              | (refine t_stB h 7 rfl (by simp [setL]) (by simp [Value.oneCell']) fun w h => ?_; try dsimp only [List.set, setL, List.eraseIdx, List.cons_append, List.nil_append, List.append_nil, Nat.zero_add, Nat.reduceAdd, Sl.v] at h)
              | (refine t_stB h 8 rfl (by simp [setL]) (by simp [Value.oneCell']) fun w h => ?_; try dsimp only [List.set, setL, List.eraseIdx, List.cons_append, List.nil_append, List.append_nil, Nat.zero_add, Nat.reduceAdd, Sl.v] at h)
              | (refine t_stB h 9 rfl (by simp [setL]) (by simp [Value.oneCell']) fun w h => ?_; try dsimp only [List.set, setL, List.eraseIdx, List.cons_append, List.nil_append, List.append_nil, Nat.zero_add, Nat.reduceAdd, Sl.v] at h)
              | refine t_newB h (by simp [Value.oneCell']) fun w b h hb => ?_
              | refine t_nil ?_
              | refine t_true rfl ?_
              | refine t_false rfl ?_
              | refine t_yes rfl ?_
              | refine t_nyes rfl ?_
              | refine t_no (by decide) ?_
              | refine t_nno (by decide) ?_
              | refine t_need (by decide) ?_)
            try dsimp only [List.set, setL, List.eraseIdx, List.cons_append, List.nil_append, List.append_nil, Nat.zero_add, Nat.reduceAdd, Sl.v] at h
            replace h := St.blkOwn 1 3 h rfl
            change St w0 W w (ownR _ _ 3 (partsV [⟨0, 1, false⟩]) :: _) at h
            first | refine t_fn (drvq_Post_own (b := qb) (mb := mb) (l := l) ⟨some ⟨_, 0, none⟩, 1, 1⟩ [⟨0, 1, false⟩] hq (by omega) (by decide) (by dsimp only; omega)) h (by repeat (first | exact Sub.nil _ | apply Sub.c0 | apply Sub.c1 | apply Sub.c2 | apply Sub.c3 | apply Sub.c4 | apply Sub.c5 | apply Sub.c6 | apply Sub.c7 | apply Sub.c8 | apply Sub.c9 | apply Sub.c10 | apply Sub.c11 | exact Sub.refl _)) noRo fun w h => ?_ | refine t_fnn (drvq_Post_own (b := qb) (mb := mb) (l := l) ⟨some ⟨_, 0, none⟩, 1, 1⟩ [⟨0, 1, false⟩] hq (by omega) (by decide) (by dsimp only; omega)) h (by repeat (first | exact Sub.nil _ | apply Sub.c0 | apply Sub.c1 | apply Sub.c2 | apply Sub.c3 | apply Sub.c4 | apply Sub.c5 | apply Sub.c6 | apply Sub.c7 | apply Sub.c8 | apply Sub.c9 | apply Sub.c10 | apply Sub.c11 | exact Sub.refl _)) noRo fun w h => ?_
            try dsimp only [List.set, setL, List.eraseIdx, List.cons_append, List.nil_append, List.append_nil, Nat.zero_add, Nat.reduceAdd, Sl.v] at h
            have hq1 := postQ1_inv (l := l) (ps := [⟨0, 1, false⟩]) hq
            first | refine t_fn (drvq_Reap_fn (b := qb) (mb := mb) (l := M.postM1 l q [⟨0, 1, false⟩]) hq1 (by rw [postM1_length]; omega)) h (by repeat (first | exact Sub.nil _ | apply Sub.c0 | apply Sub.c1 | apply Sub.c2 | apply Sub.c3 | apply Sub.c4 | apply Sub.c5 | apply Sub.c6 | apply Sub.c7 | apply Sub.c8 | apply Sub.c9 | apply Sub.c10 | apply Sub.c11 | exact Sub.refl _)) noRo fun w h => ?_ | refine t_fnn (drvq_Reap_fn (b := qb) (mb := mb) (l := M.postM1 l q [⟨0, 1, false⟩]) hq1 (by rw [postM1_length]; omega)) h (by repeat (first | exact Sub.nil _ | apply Sub.c0 | apply Sub.c1 | apply Sub.c2 | apply Sub.c3 | apply Sub.c4 | apply Sub.c5 | apply Sub.c6 | apply Sub.c7 | apply Sub.c8 | apply Sub.c9 | apply Sub.c10 | apply Sub.c11 | exact Sub.refl _)) noRo fun w h => ?_
            try dsimp only [List.set, setL, List.eraseIdx, List.cons_append, List.nil_append, List.append_nil, Nat.zero_add, Nat.reduceAdd, Sl.v] at h
            first | refine t_fn (gmem_Store_con (b := mb) 0 8 1818584692 (by decide) (by decide) (by decide)) h (by repeat (first | exact Sub.nil _ | apply Sub.c0 | apply Sub.c1 | apply Sub.c2 | apply Sub.c3 | apply Sub.c4 | apply Sub.c5 | apply Sub.c6 | apply Sub.c7 | apply Sub.c8 | apply Sub.c9 | apply Sub.c10 | apply Sub.c11 | exact Sub.refl _)) noRo fun w h => ?_ | refine t_fnn (gmem_Store_con (b := mb) 0 8 1818584692 (by decide) (by decide) (by decide)) h (by repeat (first | exact Sub.nil _ | apply Sub.c0 | apply Sub.c1 | apply Sub.c2 | apply Sub.c3 | apply Sub.c4 | apply Sub.c5 | apply Sub.c6 | apply Sub.c7 | apply Sub.c8 | apply Sub.c9 | apply Sub.c10 | apply Sub.c11 | exact Sub.refl _)) noRo fun w h => ?_
            try dsimp only [List.set, setL, List.eraseIdx, List.cons_append, List.nil_append, List.append_nil, Nat.zero_add, Nat.reduceAdd, Sl.v] at h
            exact t_jmp ⟨(some ⟨mb2, 0, none⟩, some ⟨qb2, 0, none⟩, ()), rfl, mb2, qb2, q, l, since, rfl, hok.mem rfl, h.weak (by repeat (first | exact Weak.refl _ | apply Weak.c0 | apply Weak.c1 | apply Weak.c2 | apply Weak.c3 | apply Weak.c4 | apply Weak.c5 | apply Weak.c6 | apply Weak.c7 | apply Weak.c8 | apply Weak.c9 | apply Weak.c10 | apply Weak.c11 | apply Weak.drop))⟩
          exact t_jmp ⟨(some ⟨mb, 0, none⟩, some ⟨qb, 0, none⟩, ()), rfl, mb, qb, q, l, since, rfl, hok.mem rfl, h.weak (by repeat (first | exact Weak.refl _ | apply Weak.c0 | apply Weak.c1 | apply Weak.c2 | apply Weak.c3 | apply Weak.c4 | apply Weak.c5 | apply Weak.c6 | apply Weak.c7 | apply Weak.c8 | apply Weak.c9 | apply Weak.c10 | apply Weak.c11 | apply Weak.drop))⟩
        · rintro _ w ⟨mb', qb', q', l', since', rfl, hok', h⟩
          dsimp only
          first | refine t_fn (same_con hok'.inv) h (by repeat (first | exact Sub.nil _ | apply Sub.c0 | apply Sub.c1 | apply Sub.c2 | apply Sub.c3 | apply Sub.c4 | apply Sub.c5 | apply Sub.c6 | apply Sub.c7 | apply Sub.c8 | apply Sub.c9 | apply Sub.c10 | apply Sub.c11 | exact Sub.refl _)) noRo fun w h => ?_ | refine t_fnn (same_con hok'.inv) h (by repeat (first | exact Sub.nil _ | apply Sub.c0 | apply Sub.c1 | apply Sub.c2 | apply Sub.c3 | apply Sub.c4 | apply Sub.c5 | apply Sub.c6 | apply Sub.c7 | apply Sub.c8 | apply Sub.c9 | apply Sub.c10 | apply Sub.c11 | exact Sub.refl _)) noRo fun w h => ?_
          try dsimp only [List.set, setL, List.eraseIdx, List.cons_append, List.nil_append, List.append_nil, Nat.zero_add, Nat.reduceAdd, Sl.v] at h
          refine t_false rfl ?_
          rw [w64 (n := (i : Int) + 1) (by omega)]
          exact t_next (hJ (sc.n - (i + 1)) (some ⟨mb', 0, none⟩, some ⟨qb', 0, none⟩, ((i + 1 : Nat) : Int), ()) w (by omega) ⟨i + 1, mb', qb', q', l', since', by omega, by omega, rfl, rfl, hok', h.weak (by repeat (first | exact Weak.refl _ | apply Weak.c0 | apply Weak.c1 | apply Weak.c2 | apply Weak.c3 | apply Weak.c4 | apply Weak.c5 | apply Weak.c6 | apply Weak.c7 | apply Weak.c8 | apply Weak.c9 | apply Weak.c10 | apply Weak.c11 | apply Weak.drop))⟩)
      · first | refine t_fn (fixed15) h (by repeat (first | exact Sub.nil _ | apply Sub.c0 | apply Sub.c1 | apply Sub.c2 | apply Sub.c3 | apply Sub.c4 | apply Sub.c5 | apply Sub.c6 | apply Sub.c7 | apply Sub.c8 | apply Sub.c9 | apply Sub.c10 | apply Sub.c11 | exact Sub.refl _)) noRo fun w h => ?_ | refine t_fnn (fixed15) h (by repeat (first | exact Sub.nil _ | apply Sub.c0 | apply Sub.c1 | apply Sub.c2 | apply Sub.c3 | apply Sub.c4 | apply Sub.c5 | apply Sub.c6 | apply Sub.c7 | apply Sub.c8 | apply Sub.c9 | apply Sub.c10 | apply Sub.c11 | exact Sub.refl _)) noRo fun w h => ?_
        try dsimp only [List.set, setL, List.eraseIdx, List.cons_append, List.nil_append, List.append_nil, Nat.zero_add, Nat.reduceAdd, Sl.v] at h
        exact t_ret ⟨rfl, h.weak (by repeat (first | exact Weak.refl _ | apply Weak.c0 | apply Weak.c1 | apply Weak.c2 | apply Weak.c3 | apply Weak.c4 | apply Weak.c5 | apply Weak.c6 | apply Weak.c7 | apply Weak.c8 | apply Weak.c9 | apply Weak.c10 | apply Weak.c11 | apply Weak.drop))⟩
    · first | refine t_fn (fixed15) h (by repeat (first | exact Sub.nil _ | apply Sub.c0 | apply Sub.c1 | apply Sub.c2 | apply Sub.c3 | apply Sub.c4 | apply Sub.c5 | apply Sub.c6 | apply Sub.c7 | apply Sub.c8 | apply Sub.c9 | apply Sub.c10 | apply Sub.c11 | exact Sub.refl _)) noRo fun w h => ?_ | refine t_fnn (fixed15) h (by repeat (first | exact Sub.nil _ | apply Sub.c0 | apply Sub.c1 | apply Sub.c2 | apply Sub.c3 | apply Sub.c4 | apply Sub.c5 | apply Sub.c6 | apply Sub.c7 | apply Sub.c8 | apply Sub.c9 | apply Sub.c10 | apply Sub.c11 | exact Sub.refl _)) noRo fun w h => ?_
      try dsimp only [List.set, setL, List.eraseIdx, List.cons_append, List.nil_append, List.append_nil, Nat.zero_add, Nat.reduceAdd, Sl.v] at h
      exact t_ret ⟨rfl, h.weak (by repeat (first | exact Weak.refl _ | apply Weak.c0 | apply Weak.c1 | apply Weak.c2 | apply Weak.c3 | apply Weak.c4 | apply Weak.c5 | apply Weak.c6 | apply Weak.c7 | apply Weak.c8 | apply Weak.c9 | apply Weak.c10 | apply Weak.c11 | apply Weak.drop))⟩
  · first | refine t_fnE (laid_no bytes y sc hy.1 hy.2.1 hy.2.2.1 hy.2.2.2 hc) h (by repeat (first | exact Sub.nil _ | apply Sub.c0 | apply Sub.c1 | apply Sub.c2 | apply Sub.c3 | apply Sub.c4 | apply Sub.c5 | apply Sub.c6 | apply Sub.c7 | apply Sub.c8 | apply Sub.c9 | apply Sub.c10 | apply Sub.c11 | exact Sub.refl _)) noRo ?_ | refine t_fnnE (laid_no bytes y sc hy.1 hy.2.1 hy.2.2.1 hy.2.2.2 hc) h (by repeat (first | exact Sub.nil _ | apply Sub.c0 | apply Sub.c1 | apply Sub.c2 | apply Sub.c3 | apply Sub.c4 | apply Sub.c5 | apply Sub.c6 | apply Sub.c7 | apply Sub.c8 | apply Sub.c9 | apply Sub.c10 | apply Sub.c11 | exact Sub.refl _)) noRo ?_
    rintro _ _ ⟨mb, kb, rfl, rfl⟩ w h
    try dsimp only [List.set, setL, List.eraseIdx, List.cons_append, List.nil_append, List.append_nil, Nat.zero_add, Nat.reduceAdd, Sl.v] at h
    repeat (first
      | refine t_tickS h fun w h => ?_
      | refine t_keepN ?_
      | refine t_ldB h 0 rfl rfl ?_
      | refine t_ldB h 1 rfl rfl ?_
      | refine t_ldB h 2 rfl rfl ?_
      | refine t_ldB h 3 rfl rfl ?_
      | refine t_ldB h 4 rfl rfl ?_
      | refine t_ldB h 5 rfl rfl ?_
      | refine t_ldB h 6 rfl rfl ?_
      | refine t_ldB h 7 rfl rfl ?_
      | refine t_ldB h 8 rfl rfl ?_
      | refine t_ldB h 9 rfl rfl ?_
      | refine t_ldO h 0 rfl rfl rfl ?_
      | refine t_ldO h 1 rfl rfl rfl ?_
      | refine t_ldO h 2 rfl rfl rfl ?_
      | refine t_ldO h 3 rfl rfl rfl ?_
      | refine t_ldO h 4 rfl rfl rfl ?_
      | refine t_ldO h 5 rfl rfl rfl ?_
      | refine t_ldO h 6 rfl rfl rfl ?_
      | refine t_ldO h 7 rfl rfl rfl ?_
      | refine t_ldO h 8 rfl rfl rfl ?_
      | refine t_ldO h 9 rfl rfl rfl ?_
      | refine t_keepB h 0 rfl rfl ?_
      | refine t_keepB h 1 rfl rfl ?_
      | refine t_keepB h 2 rfl rfl ?_
      | refine t_keepB h 3 rfl rfl ?_
      | refine t_keepB h 4 rfl rfl ?_
      | refine t_keepB h 5 rfl rfl ?_
      | refine t_keepB h 6 rfl rfl ?_
      | refine t_keepB h 7 rfl rfl ?_
      | refine t_keepB h 8 rfl rfl ?_
      | refine t_keepB h 9 rfl rfl ?_
      | (refine t_stB h 0 rfl (by simp [setL]) (by simp [Value.oneCell']) fun w h => ?_; try dsimp only [List.set, setL, List.eraseIdx, List.cons_append, List.nil_append, List.append_nil, Nat.zero_add, Nat.reduceAdd, Sl.v] at h)
      | (refine t_stB h 1 rfl (by simp [setL]) (by simp [Value.oneCell']) fun w h => ?_; try dsimp only [List.set, setL, List.eraseIdx, List.cons_append, List.nil_append, List.append_nil, Nat.zero_add, Nat.reduceAdd, Sl.v] at h)
      | (refine t_stB h 2 rfl (by simp [setL]) (by simp [Value.oneCell']) fun w h => ?_; try dsimp only [List.set, setL, List.eraseIdx, List.cons_append, List.nil_append, List.append_nil, Nat.zero_add, Nat.reduceAdd, Sl.v] at h)
      | (refine t_stB h 3 rfl (by simp [setL]) (by simp [Value.oneCell']) fun w h => ?_; try dsimp only [List.set, setL, List.eraseIdx, List.cons_append, List.nil_append, List.append_nil, Nat.zero_add, Nat.reduceAdd, Sl.v] at h)
      | (refine t_stB h 4 rfl (by simp [setL]) (by simp [Value.oneCell']) fun w h => ?_; try dsimp only [List.set, setL, List.eraseIdx, List.cons_append, List.nil_append, List.append_nil, Nat.zero_add, Nat.reduceAdd, Sl.v] at h)
      | (refine t_stB h 5 rfl (by simp [setL]) (by simp [Value.oneCell']) fun w h => ?_; try dsimp only [List.set, setL, List.eraseIdx, List.cons_append, List.nil_append, List.append_nil, Nat.zero_add, Nat.reduceAdd, Sl.v] at h)
      | (refine t_stB h 6 rfl (by simp [setL]) (by simp [Value.oneCell']) fun w h => ?_; try dsimp only [List.set, setL, List.eraseIdx, List.cons_append, List.nil_append, List.append_nil, Nat.zero_add, Nat.reduceAdd, Sl.v] at h)
      | (refine t_stB h 7 rfl (by simp [setL]) (by simp [Value.oneCell']) fun w h => ?_; try dsimp only [List.set, setL, List.eraseIdx, List.cons_append, List.nil_append, List.append_nil, Nat.zero_add, Nat.reduceAdd, Sl.v] at h)
      | (refine t_stB h 8 rfl (by simp [setL]) (by simp [Value.oneCell']) fun w h => ?_; try dsimp only [List.set, setL, List.eraseIdx, List.cons_append, List.nil_append, List.append_nil, Nat.zero_add, Nat.reduceAdd, Sl.v] at h)
      | (refine t_stB h 9 rfl (by simp [setL]) (by simp [Value.oneCell']) fun w h => ?_; try dsimp only [List.set, setL, List.eraseIdx, List.cons_append, List.nil_append, List.append_nil, Nat.zero_add, Nat.reduceAdd, Sl.v] at h)
      | refine t_newB h (by simp [Value.oneCell']) fun w b h hb => ?_
      | refine t_nil ?_
      | refine t_true rfl ?_
      | refine t_false rfl ?_
      | refine t_yes rfl ?_
      | refine t_nyes rfl ?_
      | refine t_no (by decide) ?_
      | refine t_nno (by decide) ?_
      | refine t_need (by decide) ?_)
    try dsimp only [List.set, setL, List.eraseIdx, List.cons_append, List.nil_append, List.append_nil, Nat.zero_add, Nat.reduceAdd, Sl.v] at h
    refine t_loop (fun m st w' => m = 0 ∧ st = (some ⟨mb, 0, none⟩, none, (0 : Int), ()) ∧ St w0 W w' B) 0 ⟨rfl, rfl, h.weak (by repeat (first | exact Weak.refl _ | apply Weak.c0 | apply Weak.c1 | apply Weak.c2 | apply Weak.c3 | apply Weak.c4 | apply Weak.c5 | apply Weak.c6 | apply Weak.c7 | apply Weak.c8 | apply Weak.c9 | apply Weak.c10 | apply Weak.c11 | apply Weak.drop))⟩ ?_
    rintro m st w ⟨rfl, rfl, h⟩ Ks hJ _
    refine t_false rfl ?_
    first | refine t_fn (fixed15) h (by repeat (first | exact Sub.nil _ | apply Sub.c0 | apply Sub.c1 | apply Sub.c2 | apply Sub.c3 | apply Sub.c4 | apply Sub.c5 | apply Sub.c6 | apply Sub.c7 | apply Sub.c8 | apply Sub.c9 | apply Sub.c10 | apply Sub.c11 | exact Sub.refl _)) noRo fun w h => ?_ | refine t_fnn (fixed15) h (by repeat (first | exact Sub.nil _ | apply Sub.c0 | apply Sub.c1 | apply Sub.c2 | apply Sub.c3 | apply Sub.c4 | apply Sub.c5 | apply Sub.c6 | apply Sub.c7 | apply Sub.c8 | apply Sub.c9 | apply Sub.c10 | apply Sub.c11 | exact Sub.refl _)) noRo fun w h => ?_
    try dsimp only [List.set, setL, List.eraseIdx, List.cons_append, List.nil_append, List.append_nil, Nat.zero_add, Nat.reduceAdd, Sl.v] at h
    exact t_ret ⟨rfl, h.weak (by repeat (first | exact Weak.refl _ | apply Weak.c0 | apply Weak.c1 | apply Weak.c2 | apply Weak.c3 | apply Weak.c4 | apply Weak.c5 | apply Weak.c6 | apply Weak.c7 | apply Weak.c8 | apply Weak.c9 | apply Weak.c10 | apply Weak.c11 | apply Weak.drop))⟩
end Go.Proofs.YthfcneahnldgnaaGreat
