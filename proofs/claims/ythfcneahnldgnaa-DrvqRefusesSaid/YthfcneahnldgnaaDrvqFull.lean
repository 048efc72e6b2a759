/- DrvqFull: as long as there are places parts are posted, with the least ids; then no more. -/
import Derived.Test.YthfcneahnldgnaaFixed15
namespace Go.Proofs.Ythfcneahnldgnaa
open Go Vk
set_option linter.unusedSimpArgs false
set_option linter.unusedVariables false
theorem band_le (x m : Int) (h0 : 0 ≤ m) (hm : m < 9223372036854775808) : 0 ≤ band .i64 x m ∧ band .i64 x m ≤ m := by
  have h1 : (BitVec.ofInt IntKind.i64.bits x &&& BitVec.ofInt IntKind.i64.bits m).toNat ≤ m.toNat := by
    rw [BitVec.toNat_and]
    refine Nat.le_trans Nat.and_le_right ?_
    show (BitVec.ofInt 64 m).toNat ≤ m.toNat
    rw [BitVec.toNat_ofInt]
    omega
  unfold band
  rw [w64 (by omega)]
  omega
namespace M
def mkParts (k : Nat) : List Part := (List.range k).map fun t : Nat => ⟨600 + (t : Int), 1, false⟩
end M
theorem mkParts_length (k : Nat) : (M.mkParts k).length = k := by simp [M.mkParts]
theorem mkParts_succ (k : Nat) : M.mkParts (k + 1) = M.mkParts k ++ [⟨600 + k, 1, false⟩] := by simp [M.mkParts, List.range_succ]
theorem partsV_append (a b : List M.Part) : partsV (a ++ b) = partsV a ++ partsV b := by simp [partsV]
theorem partsOk_plain {N : Nat} : ∀ (ps : List M.Part), (∀ p ∈ ps, 1 ≤ p.n ∧ 0 ≤ p.at_ ∧ p.at_ + p.n ≤ N ∧ p.write = false) → M.partsOk N false ps = true
  | [], _ => rfl
  | p :: r, h => by
    have hp := h p (by simp)
    have ih := partsOk_plain r fun x hx => h x (by simp [hx])
    simp only [M.partsOk, M.mayAt, hp.2.2.2, ih, Bool.and_true, Bool.not_false, Bool.or_true]
    simp only [Bool.and_eq_true, decide_eq_true_eq]
    omega
theorem mkParts_ok (k : Nat) (hk : k ≤ 4) : ∀ p ∈ M.mkParts k, 1 ≤ p.n ∧ 0 ≤ p.at_ ∧ p.at_ + p.n ≤ 1024 ∧ p.write = false := by
  intro p hp
  simp only [M.mkParts, List.mem_map, List.mem_range] at hp
  obtain ⟨t, ht, rfl⟩ := hp
  dsimp only
  refine ⟨by omega, by omega, by omega, rfl⟩
theorem mkParts_i64 (k : Nat) (hk : k ≤ 4) : ∀ p ∈ M.mkParts k, i64R p.at_ ∧ i64R p.n := by
  intro p hp
  have := mkParts_ok k hk p hp
  unfold i64R; omega
theorem postE_mk {l : List UInt8} {q : M.DQ} (hl : l.length = 1024) (k : Nat) (h1 : 1 ≤ k) (h2 : k ≤ 4) : M.postE l q (M.mkParts k) = if (k : Int) ≤ q.free then 0 else 151 := by
  unfold M.postE M.mayPost
  rw [mkParts_length, if_neg (by omega), hl, if_neg (by rw [partsOk_plain _ (mkParts_ok k h2)]; simp)]
  by_cases h : (k : Int) ≤ q.free
  · rw [if_neg (by omega), if_pos h]
  · rw [if_pos (by omega), if_neg h]
def ranges (n : Nat) : List Int := (List.range n).map fun i : Nat => (i : Int)
theorem leastId_range {held : List (Int × Int)} {n : Nat} (h : held.map (·.1) = ranges n) : M.leastId held = n := by
  have hm : ∀ x : Int, M.hasId held x = true ↔ x ∈ ranges n := by
    intro x
    rw [← h]
    simp [M.hasId, List.any_eq_true]
  refine leastId_eq ?_ fun j hj => (hm _).2 ?_
  · cases hb : M.hasId held n with
    | false => rfl
    | true =>
      have := (hm _).1 hb
      simp only [ranges, List.mem_map, List.mem_range] at this
      obtain ⟨j, hj, he⟩ := this
      omega
  · simp only [ranges, List.mem_map, List.mem_range]
    exact ⟨j, hj, rfl⟩
theorem laid_1024 (n : Int) (h : 1 ≤ n ∧ n ≤ 8) : M.layCheck (M.laid0 1024).length ⟨0, n, 512, 516⟩ = 0 := by
  rw [laid0_length]
  have : M.laidLen 1024 = 1024 := by decide
  rw [this]
  unfold M.layCheck M.mayAt
  rw [if_pos]
  simp only [decide_eq_true_eq]
  refine ⟨h.1, by omega, by decide, by decide, by decide, by omega, by omega, by omega⟩
theorem laid0_1024 : (M.laid0 1024).length = 1024 := by rw [laid0_length]; decide
theorem DrvqFull_con (size : Int) (x1 : Sl) (lens : List Int) (hx : x1.n ≤ 9223372036854775807) : Con Try.prog (fun w => Rd w x1 1 (intsV lens)) 4 #[.int .i64 size, .slice x1.a x1.n x1.c] .B [] true [] := by
  intro w0 W w B hro h
  refine aqueductlaw15_DrvqFull.calls size x1 ?_
  unfold aqueductlaw15_DrvqFull.T
  have hb := band_le size 7 (by decide) (by decide)
  have hln : lens.length = x1.n := by have := (hro w h.kept).len; simp [intsV] at this; omega
  rw [w64 (n := 1 + band .i64 size 7) (by omega)]
  generalize hn : 1 + band .i64 size 7 = n
  have hn8 : 1 ≤ n ∧ n ≤ 8 := by omega
  first | refine t_fnE (laid_ok 1024 ⟨0, n, 512, 516⟩ ⟨none, 0, 0⟩ (by unfold i64R; dsimp only; omega) (by unfold i64R; dsimp only; omega) (by unfold i64R; dsimp only; omega) (by unfold i64R; dsimp only; omega) (laid_1024 n hn8)) h (by repeat (first | exact Sub.nil _ | apply Sub.c0 | apply Sub.c1 | apply Sub.c2 | apply Sub.c3 | apply Sub.c4 | apply Sub.c5 | apply Sub.c6 | apply Sub.c7 | apply Sub.c8 | apply Sub.c9 | apply Sub.c10 | apply Sub.c11 | exact Sub.refl _)) noRo ?_ | refine t_fnnE (laid_ok 1024 ⟨0, n, 512, 516⟩ ⟨none, 0, 0⟩ (by unfold i64R; dsimp only; omega) (by unfold i64R; dsimp only; omega) (by unfold i64R; dsimp only; omega) (by unfold i64R; dsimp only; omega) (laid_1024 n hn8)) h (by repeat (first | exact Sub.nil _ | apply Sub.c0 | apply Sub.c1 | apply Sub.c2 | apply Sub.c3 | apply Sub.c4 | apply Sub.c5 | apply Sub.c6 | apply Sub.c7 | apply Sub.c8 | apply Sub.c9 | apply Sub.c10 | apply Sub.c11 | exact Sub.refl _)) noRo ?_
  rintro _ _ ⟨mb, kb, qb, xb, rfl, rfl⟩ w h
  try dsimp only [List.set, setL, List.eraseIdx, List.cons_append, List.nil_append, List.append_nil, Nat.zero_add, Nat.reduceAdd, Sl.v] at h
  have hinv0 : (M.newQ ⟨0, n, 512, 516⟩).Inv := newQ_inv (by rw [laid0_length]; decide) (laid_1024 n hn8)
  have hlen0 : (M.newMem (M.laid0 1024) ⟨0, n, 512, 516⟩).length = 1024 := by rw [newMem_length, laid0_1024]
  generalize M.newMem (M.laid0 1024) ⟨0, n, 512, 516⟩ = l0 at *
  repeat (first
    | refine t_tickS h fun w h => ?_
    | refine t_keepN ?_
    | refine t_ldB h 0 rfl rfl ?_
    | refine t_ldB h 1 rfl rfl ?_
    | refine t_ldB h 2 rfl rfl ?_
    | refine t_ldB h 3 rfl rfl ?_
    | refine t_ldB h 4 rfl rfl ?_
    | refine t_ldB h 5 rfl rfl ?_
    | refine t_ldB h 6 rfl rfl ?_
    | refine t_ldB h 7 rfl rfl ?_
    | refine t_ldB h 8 rfl rfl ?_
    | refine t_ldB h 9 rfl rfl ?_
    | refine t_ldO h 0 rfl rfl rfl ?_
    | refine t_ldO h 1 rfl rfl rfl ?_
    | refine t_ldO h 2 rfl rfl rfl ?_
    | refine t_ldO h 3 rfl rfl rfl ?_
    | refine t_ldO h 4 rfl rfl rfl ?_
    | refine t_ldO h 5 rfl rfl rfl ?_
    | refine t_ldO h 6 rfl rfl rfl ?_
    | refine t_ldO h 7 rfl rfl rfl ?_
    | refine t_ldO h 8 rfl rfl rfl ?_
    | refine t_ldO h 9 rfl rfl rfl ?_
    | refine t_keepB h 0 rfl rfl ?_
    | refine t_keepB h 1 rfl rfl ?_
    | refine t_keepB h 2 rfl rfl ?_
    | refine t_keepB h 3 rfl rfl ?_
    | refine t_keepB h 4 rfl rfl ?_
    | refine t_keepB h 5 rfl rfl ?_
    | refine t_keepB h 6 rfl rfl ?_
    | refine t_keepB h 7 rfl rfl ?_
    | refine t_keepB h 8 rfl rfl ?_
    | refine t_keepB h 9 rfl rfl ?_
    | (refine t_stB h 0 rfl (by simp [setL]) (by simp [Value.oneCell']) fun w h => ?_; try dsimp only [List.set, setL, List.eraseIdx, List.cons_append, List.nil_append, List.append_nil, Nat.zero_add, Nat.reduceAdd, Sl.v] at h)
    | (refine t_stB h 1 rfl (by simp [setL]) (by simp [Value.oneCell']) fun w h => ?_; try dsimp only [List.set, setL, List.eraseIdx, List.cons_append, List.nil_append, List.append_nil, Nat.zero_add, Nat.reduceAdd, Sl.v] at h)
    | (refine t_stB h 2 rfl (by simp [setL]) (by simp [Value.oneCell']) fun w h => ?_; try dsimp only [List.set, setL, List.eraseIdx, List.cons_append, List.nil_append, List.append_nil, Nat.zero_add, Nat.reduceAdd, Sl.v] at h)
    | (refine t_stB h 3 rfl (by simp [setL]) (by simp [Value.oneCell']) fun w h => ?_; try dsimp only [List.set, setL, List.eraseIdx, List.cons_append, List.nil_append, List.append_nil, Nat.zero_add, Nat.reduceAdd, Sl.v] at h)
    | (refine t_stB h 4 rfl (by simp [setL]) (by simp [Value.oneCell']) fun w h => ?_; try dsimp only [List.set, setL, List.eraseIdx, List.cons_append, List.nil_append, List.append_nil, Nat.zero_add, Nat.reduceAdd, Sl.v] at h)
    | (refine t_stB h 5 rfl (by simp [setL]) (by simp [Value.oneCell']) fun w h => ?_; try dsimp only [List.set, setL, List.eraseIdx, List.cons_append, List.nil_append, List.append_nil, Nat.zero_add, Nat.reduceAdd, Sl.v] at h)
    | (refine t_stB h 6 rfl (by simp [setL]) (by simp [Value.oneCell']) fun w h => ?_; try dsimp only [List.set, setL, List.eraseIdx, List.cons_append, List.nil_append, List.append_nil, Nat.zero_add, Nat.reduceAdd, Sl.v] at h)
    | (refine t_stB h 7 rfl (by simp [setL]) (by simp [Value.oneCell']) fun w h => ?_; try dsimp only [List.set, setL, List.eraseIdx, List.cons_append, List.nil_append, List.append_nil, Nat.zero_add, Nat.reduceAdd, Sl.v] at h)
    | (refine t_stB h 8 rfl (by simp [setL]) (by simp [Value.oneCell']) fun w h => ?_; try dsimp only [List.set, setL, List.eraseIdx, List.cons_append, List.nil_append, List.append_nil, Nat.zero_add, Nat.reduceAdd, Sl.v] at h)
    | (refine t_stB h 9 rfl (by simp [setL]) (by simp [Value.oneCell']) fun w h => ?_; try dsimp only [List.set, setL, List.eraseIdx, List.cons_append, List.nil_append, List.append_nil, Nat.zero_add, Nat.reduceAdd, Sl.v] at h)
    | refine t_newB h (by simp [Value.oneCell']) fun w b h hb => ?_
    | refine t_nil ?_
    | refine t_true rfl ?_
    | refine t_false rfl ?_
    | refine t_yes rfl ?_
    | refine t_nyes rfl ?_
    | refine t_no (by decide) ?_
    | refine t_nno (by decide) ?_
    | refine t_need (by decide) ?_)
  try dsimp only [List.set, setL, List.eraseIdx, List.cons_append, List.nil_append, List.append_nil, Nat.zero_add, Nat.reduceAdd, Sl.v] at h
  refine t_loop (fun m st w' => ∃ (i ids : Nat) (free : Int) (q : M.DQ) (l : List UInt8), i ≤ x1.n ∧ m = x1.n - i ∧ st = (free, (ids : Int), (i : Int), ()) ∧ q.Inv ∧ l.length = 1024 ∧ q.free = free ∧ q.held.map (·.1) = ranges ids ∧
    St w0 W w' (dqR qb mb q :: memR mb l :: kqR xb kb (M.newK ⟨0, n, 512, 516⟩) :: memK kb l0 :: B)) x1.n ⟨0, 0, n, M.newQ ⟨0, n, 512, 516⟩, l0, by omega, rfl, rfl, hinv0, hlen0, rfl, rfl, h⟩ ?_
  rintro m st w ⟨i, ids, free, q, l, hi, rfl, rfl, hq, hl, hfree, hids, h⟩ Ks hJ _
  dsimp only
  refine t_if (fun c1 => ?_) (fun c1 => ?_)
  · refine t_if (fun c2 => ?_) (fun c2 => ?_)
    · have hlt : i < lens.length := by omega
      refine t_need (by omega) (t_nilRd (hro w h.kept) (by omega) fun a ha => ?_)
      rw [Int.toNat_natCast]
      refine t_ldRd (k := .I) (x := lens.getD i 0) (hro w h.kept) ha (by rw [intsV_get hlt]; rfl) ?_
      generalize lens.getD i 0 = v
      have hb3 := band_le v 3 (by decide) (by decide)
      rw [w64 (n := 1 + band .i64 v 3) (by omega)]
      obtain ⟨k, hk⟩ := Int.eq_ofNat_of_zero_le (a := 1 + band .i64 v 3) (by omega)
      have hk4 : 1 ≤ k ∧ k ≤ 4 := by omega
      rw [hk]
      refine t_newO (sz := 3) h fun w a hk h => ?_
      refine t_loop (fun m st w' => ∃ (j : Nat) (s : Sl), j ≤ k ∧ m = k - j ∧ st = (s, (j : Int), ()) ∧ s.n = j ∧ St w0 W w' (ownR s 56 3 (partsV (M.mkParts j)) :: dqR qb mb q :: memR mb l :: kqR xb kb (M.newK ⟨0, n, 512, 516⟩) :: memK kb l0 :: B)) k ⟨0, _, by omega, rfl, rfl, rfl, h⟩ ?_
      rintro m st w ⟨j, s, hj, rfl, rfl, hsn, h⟩ Ks2 hJ2 hK2
      dsimp only
      refine t_if (fun c3 => ?_) (fun c3 => ?_)
      · rw [w64 (n := 600 + (j : Int)) (by omega), w64 (n := (j : Int) + 1) (by omega)]
        repeat (first
          | refine t_tickS h fun w h => ?_
          | refine t_keepN ?_
          | refine t_ldB h 0 rfl rfl ?_
          | refine t_ldB h 1 rfl rfl ?_
          | refine t_ldB h 2 rfl rfl ?_
          | refine t_ldB h 3 rfl rfl ?_
          | refine t_ldB h 4 rfl rfl ?_
          | refine t_ldB h 5 rfl rfl ?_
          | refine t_ldB h 6 rfl rfl ?_
          | refine t_ldB h 7 rfl rfl ?_
          | refine t_ldB h 8 rfl rfl ?_
          | refine t_ldB h 9 rfl rfl ?_
          | refine t_ldO h 0 rfl rfl rfl ?_
          | refine t_ldO h 1 rfl rfl rfl ?_
          | refine t_ldO h 2 rfl rfl rfl ?_
          | refine t_ldO h 3 rfl rfl rfl ?_
          | refine t_ldO h 4 rfl rfl rfl ?_
          | refine t_ldO h 5 rfl rfl rfl ?_
          | refine t_ldO h 6 rfl rfl rfl ?_
          | refine t_ldO h 7 rfl rfl rfl ?_
          | refine t_ldO h 8 rfl rfl rfl ?_
          | refine t_ldO h 9 rfl rfl rfl ?_
          | refine t_keepB h 0 rfl rfl ?_
          | refine t_keepB h 1 rfl rfl ?_
          | refine t_keepB h 2 rfl rfl ?_
          | refine t_keepB h 3 rfl rfl ?_
          | refine t_keepB h 4 rfl rfl ?_
          | refine t_keepB h 5 rfl rfl ?_
          | refine t_keepB h 6 rfl rfl ?_
          | refine t_keepB h 7 rfl rfl ?_
          | refine t_keepB h 8 rfl rfl ?_
          | refine t_keepB h 9 rfl rfl ?_
          | (refine t_stB h 0 rfl (by simp [setL]) (by simp [Value.oneCell']) fun w h => ?_; try dsimp only [List.set, setL, List.eraseIdx, List.cons_append, List.nil_append, List.append_nil, Nat.zero_add, Nat.reduceAdd, Sl.v] at h)
          | (refine t_stB h 1 rfl (by simp [setL]) (by simp [Value.oneCell']) fun w h => ?_; try dsimp only [List.set, setL, List.eraseIdx, List.cons_append, List.nil_append, List.append_nil, Nat.zero_add, Nat.reduceAdd, Sl.v] at h)
          | (refine t_stB h 2 rfl (by simp [setL]) (by simp [Value.oneCell']) fun w h => ?_; try dsimp only [List.set, setL, List.eraseIdx, List.cons_append, List.nil_append, List.append_nil, Nat.zero_add, Nat.reduceAdd, Sl.v] at h)
          | (refine t_stB h 3 rfl (by simp [setL]) (by simp [Value.oneCell']) fun w h => ?_; try dsimp only [List.set, setL, List.eraseIdx, List.cons_append, List.nil_append, List.append_nil, Nat.zero_add, Nat.reduceAdd, Sl.v] at h)
          | (refine t_stB h 4 rfl (by simp [setL]) (by simp [Value.oneCell']) fun w h => ?_; try dsimp only [List.set, setL, List.eraseIdx, List.cons_append, List.nil_append, List.append_nil, Nat.zero_add, Nat.reduceAdd, Sl.v] at h)
          | (refine t_stB h 5 rfl (by simp [setL]) (by simp [Value.oneCell']) fun w h => ?_; try dsimp only [List.set, setL, List.eraseIdx, List.cons_append, List.nil_append, List.append_nil, Nat.zero_add, Nat.reduceAdd, Sl.v] at h)
          | (refine t_stB h 6 rfl (by simp [setL]) (by simp [Value.oneCell']) fun w h => ?_; try dsimp only [List.set, setL, List.eraseIdx, List.cons_append, List.nil_append, List.append_nil, Nat.zero_add, Nat.reduceAdd, Sl.v] at h)
          | (refine t_stB h 7 rfl (by simp [setL]) (by simp [Value.oneCell']) fun w h => ?_; try dsimp only [List.set, setL, List.eraseIdx, List.cons_append, List.nil_append, List.append_nil, Nat.zero_add, Nat.reduceAdd, Sl.v] at h)
          | (refine t_stB h 8 rfl (by simp [setL]) (by simp [Value.oneCell']) fun w h => ?_; try dsimp only [List.set, setL, List.eraseIdx, List.cons_append, List.nil_append, List.append_nil, Nat.zero_add, Nat.reduceAdd, Sl.v] at h)
          | (refine t_stB h 9 rfl (by simp [setL]) (by simp [Value.oneCell']) fun w h => ?_; try dsimp only [List.set, setL, List.eraseIdx, List.cons_append, List.nil_append, List.append_nil, Nat.zero_add, Nat.reduceAdd, Sl.v] at h)
          | refine t_newB h (by simp [Value.oneCell']) fun w b h hb => ?_
          | refine t_nil ?_
          | refine t_true rfl ?_
          | refine t_false rfl ?_
          | refine t_yes rfl ?_
          | refine t_nyes rfl ?_
          | refine t_no (by decide) ?_
          | refine t_nno (by decide) ?_
          | refine t_need (by decide) ?_)
        try dsimp only [List.set, setL, List.eraseIdx, List.cons_append, List.nil_append, List.append_nil, Nat.zero_add, Nat.reduceAdd, Sl.v] at h
        have hblk := h.blk 0 rfl
        refine t_append h 1 rfl slI_parts rfl undParts (Src.of_blk (m := 1) hblk rfl) (by simp [Value.oneCell']) (by omega) (by omega) fun s' w hn' h => ?_
        try dsimp only [List.set, setL, List.eraseIdx, List.cons_append, List.nil_append, List.append_nil, Nat.zero_add, Nat.reduceAdd, Sl.v] at h
        refine t_next (hJ2 (k - (j + 1)) (s', ((j + 1 : Nat) : Int), ()) w (by omega) ⟨j + 1, s', by omega, rfl, rfl, by omega, ?_⟩)
        rw [mkParts_succ, partsV_append]
        exact h.drop
      · have hjk : j = k := by omega
        subst hjk
        first | refine t_fn (drvq_Post_own (l := l) s (M.mkParts j) hq (by omega) (mkParts_i64 j hk4.2) (by omega)) h (by repeat (first | exact Sub.nil _ | apply Sub.c0 | apply Sub.c1 | apply Sub.c2 | apply Sub.c3 | apply Sub.c4 | apply Sub.c5 | apply Sub.c6 | apply Sub.c7 | apply Sub.c8 | apply Sub.c9 | apply Sub.c10 | apply Sub.c11 | exact Sub.refl _)) noRo fun w h => ?_ | refine t_fnn (drvq_Post_own (l := l) s (M.mkParts j) hq (by omega) (mkParts_i64 j hk4.2) (by omega)) h (by repeat (first | exact Sub.nil _ | apply Sub.c0 | apply Sub.c1 | apply Sub.c2 | apply Sub.c3 | apply Sub.c4 | apply Sub.c5 | apply Sub.c6 | apply Sub.c7 | apply Sub.c8 | apply Sub.c9 | apply Sub.c10 | apply Sub.c11 | exact Sub.refl _)) noRo fun w h => ?_
        try dsimp only [List.set, setL, List.eraseIdx, List.cons_append, List.nil_append, List.append_nil, Nat.zero_add, Nat.reduceAdd, Sl.v] at h
        have hE := postE_mk (q := q) hl j hk4.1 hk4.2
        have hId : M.postE l q (M.mkParts j) = 0 → M.postId l q (M.mkParts j) = ids := fun h0 => by unfold M.postId; rw [if_pos h0, leastId_range hids]
        have hQ := postQ1_inv (l := l) (ps := M.mkParts j) hq
        have hL := postM1_length l q (M.mkParts j)
        have hq2 : M.postE l q (M.mkParts j) = 0 → (M.postQ1 l q (M.mkParts j)).free = free - j ∧ (M.postQ1 l q (M.mkParts j)).held.map (·.1) = ranges (ids + 1) := fun h0 => by
          unfold M.postQ1
          rw [if_pos h0]
          simp only [M.postQ, mkParts_length, List.map_append, hids, List.map_cons, List.map_nil, leastId_range hids]
          exact ⟨by omega, by simp [ranges, List.range_succ]⟩
        have hcount : ∀ (q' : M.DQ) (m : Nat), q'.held.map (·.1) = ranges m → q'.held.length = m := fun q' m he => by
          have := congrArg List.length he
          simpa [ranges] using this
        have hidl : ids ≤ 32768 := by have := hq.ok.len; rw [hcount _ _ hids] at this; exact this
        have hfb := hq.ok.free
        have hsb := hq.ok.size
        dsimp only
        by_cases hle : (j : Int) ≤ free
        · rw [hfree, if_pos hle] at hE
          obtain ⟨hf2, hi2⟩ := hq2 hE
          rw [hId hE, hE, decide_eq_true hle]
          generalize M.postQ1 l q (M.mkParts j) = q' at *
          generalize M.postM1 l q (M.mkParts j) = l' at *
          refine t_bindQ (fun _ w' => w' = w) ?_ ?_
          · repeat (first
              | refine t_tickS h fun w h => ?_
              | refine t_keepN ?_
              | refine t_ldB h 0 rfl rfl ?_
              | refine t_ldB h 1 rfl rfl ?_
              | refine t_ldB h 2 rfl rfl ?_
              | refine t_ldB h 3 rfl rfl ?_
              | refine t_ldB h 4 rfl rfl ?_
              | refine t_ldB h 5 rfl rfl ?_
              | refine t_ldB h 6 rfl rfl ?_
              | refine t_ldB h 7 rfl rfl ?_
              | refine t_ldB h 8 rfl rfl ?_
              | refine t_ldB h 9 rfl rfl ?_
              | refine t_ldO h 0 rfl rfl rfl ?_
              | refine t_ldO h 1 rfl rfl rfl ?_
              | refine t_ldO h 2 rfl rfl rfl ?_
              | refine t_ldO h 3 rfl rfl rfl ?_
              | refine t_ldO h 4 rfl rfl rfl ?_
              | refine t_ldO h 5 rfl rfl rfl ?_
              | refine t_ldO h 6 rfl rfl rfl ?_
              | refine t_ldO h 7 rfl rfl rfl ?_
              | refine t_ldO h 8 rfl rfl rfl ?_
              | refine t_ldO h 9 rfl rfl rfl ?_
              | refine t_keepB h 0 rfl rfl ?_
              | refine t_keepB h 1 rfl rfl ?_
              | refine t_keepB h 2 rfl rfl ?_
              | refine t_keepB h 3 rfl rfl ?_
              | refine t_keepB h 4 rfl rfl ?_
              | refine t_keepB h 5 rfl rfl ?_
              | refine t_keepB h 6 rfl rfl ?_
              | refine t_keepB h 7 rfl rfl ?_
              | refine t_keepB h 8 rfl rfl ?_
              | refine t_keepB h 9 rfl rfl ?_
              | (refine t_stB h 0 rfl (by simp [setL]) (by simp [Value.oneCell']) fun w h => ?_; try dsimp only [List.set, setL, List.eraseIdx, List.cons_append, List.nil_append, List.append_nil, Nat.zero_add, Nat.reduceAdd, Sl.v] at h)
              | (refine t_stB h 1 rfl (by simp [setL]) (by simp [Value.oneCell']) fun w h => ?_; try dsimp only [List.set, setL, List.eraseIdx, List.cons_append, List.nil_append, List.append_nil, Nat.zero_add, Nat.reduceAdd, Sl.v] at h)
              | (refine t_stB h 2 rfl (by simp [setL]) (by simp [Value.oneCell']) fun w h => ?_; try dsimp only [List.set, setL, List.eraseIdx, List.cons_append, List.nil_append, List.append_nil, Nat.zero_add, Nat.reduceAdd, Sl.v] at h)
              | (refine t_stB h 3 rfl (by simp [setL]) (by simp [Value.oneCell']) fun w h => ?_; try dsimp only [List.set, setL, List.eraseIdx, List.cons_append, List.nil_append, List.append_nil, Nat.zero_add, Nat.reduceAdd, Sl.v] at h)
              | (refine t_stB h 4 rfl (by simp [setL]) (by simp [Value.oneCell']) fun w h => ?_; try dsimp only [List.set, setL, List.eraseIdx, List.cons_append, List.nil_append, List.append_nil, Nat.zero_add, Nat.reduceAdd, Sl.v] at h)
              | (refine t_stB h 5 rfl (by simp [setL]) (by simp [Value.oneCell']) fun w h => ?_; try dsimp only [List.set, setL, List.eraseIdx, List.cons_append, List.nil_append, List.append_nil, Nat.zero_add, Nat.reduceAdd, Sl.v] at h)
              | (refine t_stB h 6 rfl (by simp [setL]) (by simp [Value.oneCell']) fun w h => ?_; try dsimp only [List.set, setL, List.eraseIdx, List.cons_append, List.nil_append, List.append_nil, Nat.zero_add, Nat.reduceAdd, Sl.v] at h)
              | (refine t_stB h 7 rfl (by simp [setL]) (by simp [Value.oneCell']) fun w h => ?_; try dsimp only [List.set, setL, List.eraseIdx, List.cons_append, List.nil_append, List.append_nil, Nat.zero_add, Nat.reduceAdd, Sl.v] at h)
              | (refine t_stB h 8 rfl (by simp [setL]) (by simp [Value.oneCell']) fun w h => ?_; try dsimp only [List.set, setL, List.eraseIdx, List.cons_append, List.nil_append, List.append_nil, Nat.zero_add, Nat.reduceAdd, Sl.v] at h)
              | (refine t_stB h 9 rfl (by simp [setL]) (by simp [Value.oneCell']) fun w h => ?_; try dsimp only [List.set, setL, List.eraseIdx, List.cons_append, List.nil_append, List.append_nil, Nat.zero_add, Nat.reduceAdd, Sl.v] at h)
              | refine t_newB h (by simp [Value.oneCell']) fun w b h hb => ?_
              | refine t_nil ?_
              | refine t_true rfl ?_
              | refine t_false rfl ?_
              | refine t_yes rfl ?_
              | refine t_nyes rfl ?_
              | refine t_no (by decide) ?_
              | refine t_nno (by decide) ?_
              | refine t_need (by decide) ?_)
            try dsimp only [List.set, setL, List.eraseIdx, List.cons_append, List.nil_append, List.append_nil, Nat.zero_add, Nat.reduceAdd, Sl.v] at h
            refine t_jmp ⟨(), rfl, rfl⟩
          rintro _ w' hw
          rw [hw]
          refine t_bindQ (fun x w' => x = (free - j, ((ids + 1 : Nat) : Int), ()) ∧ w' = w) ?_ ?_
          · refine t_yes rfl (t_jmp ⟨(free - j, ((ids + 1 : Nat) : Int), ()), ?_, rfl, rfl⟩)
            rw [w64 (by omega), w64 (by omega)]; rfl
          rintro _ w' ⟨rfl, hw⟩
          rw [hw]
          dsimp only
          first | refine t_fn (drvq_Free_fn) h (by repeat (first | exact Sub.nil _ | apply Sub.c0 | apply Sub.c1 | apply Sub.c2 | apply Sub.c3 | apply Sub.c4 | apply Sub.c5 | apply Sub.c6 | apply Sub.c7 | apply Sub.c8 | apply Sub.c9 | apply Sub.c10 | apply Sub.c11 | exact Sub.refl _)) noRo fun w h => ?_ | refine t_fnn (drvq_Free_fn) h (by repeat (first | exact Sub.nil _ | apply Sub.c0 | apply Sub.c1 | apply Sub.c2 | apply Sub.c3 | apply Sub.c4 | apply Sub.c5 | apply Sub.c6 | apply Sub.c7 | apply Sub.c8 | apply Sub.c9 | apply Sub.c10 | apply Sub.c11 | exact Sub.refl _)) noRo fun w h => ?_
          try dsimp only [List.set, setL, List.eraseIdx, List.cons_append, List.nil_append, List.append_nil, Nat.zero_add, Nat.reduceAdd, Sl.v] at h
          refine t_nyes hf2 ?_
          first | refine t_fnE (drvq_Held_fn (Inv_i64 hQ) (by rw [hcount _ _ hi2]; omega)) h (by repeat (first | exact Sub.nil _ | apply Sub.c0 | apply Sub.c1 | apply Sub.c2 | apply Sub.c3 | apply Sub.c4 | apply Sub.c5 | apply Sub.c6 | apply Sub.c7 | apply Sub.c8 | apply Sub.c9 | apply Sub.c10 | apply Sub.c11 | exact Sub.refl _)) noRo ?_ | refine t_fnnE (drvq_Held_fn (Inv_i64 hQ) (by rw [hcount _ _ hi2]; omega)) h (by repeat (first | exact Sub.nil _ | apply Sub.c0 | apply Sub.c1 | apply Sub.c2 | apply Sub.c3 | apply Sub.c4 | apply Sub.c5 | apply Sub.c6 | apply Sub.c7 | apply Sub.c8 | apply Sub.c9 | apply Sub.c10 | apply Sub.c11 | exact Sub.refl _)) noRo ?_
          rintro s2 post ⟨hn2, rfl⟩ w h
          try dsimp only [List.set, setL, List.eraseIdx, List.cons_append, List.nil_append, List.append_nil, Nat.zero_add, Nat.reduceAdd, Sl.v] at h
          rw [hn2, hcount _ _ hi2]
          refine t_nyes rfl ?_
          rw [w64 (n := (i : Int) + 1) (by omega)]
          refine t_next ?_
          rw [hK2 0 (by decide)]
          exact hJ (x1.n - (i + 1)) (free - j, ((ids + 1 : Nat) : Int), ((i + 1 : Nat) : Int), ()) w (by omega) ⟨i + 1, ids + 1, free - j, q', l', by omega, rfl, rfl, hQ, by omega, hf2, hi2, h.weak (by repeat (first | exact Weak.refl _ | apply Weak.c0 | apply Weak.c1 | apply Weak.c2 | apply Weak.c3 | apply Weak.c4 | apply Weak.c5 | apply Weak.c6 | apply Weak.c7 | apply Weak.c8 | apply Weak.c9 | apply Weak.c10 | apply Weak.c11 | apply Weak.drop))⟩
        · rw [hfree, if_neg hle] at hE
          have hno := postQ1_no (l := l) (q := q) (ps := M.mkParts j) (by rw [hE]; decide)
          rw [hE, decide_eq_false hle]
          rw [hno.1, hno.2] at h
          refine t_bindQ (fun _ w' => w' = w) ?_ ?_
          · repeat (first
              | refine t_tickS h fun w h => ?_
              | refine t_keepN ?_
              | refine t_ldB h 0 rfl rfl ?_
              | refine t_ldB h 1 rfl rfl ?_
              | refine t_ldB h 2 rfl rfl ?_
              | refine t_ldB h 3 rfl rfl ?_
              | refine t_ldB h 4 rfl rfl ?_
              | refine t_ldB h 5 rfl rfl ?_
              | refine t_ldB h 6 rfl rfl ?_
              | refine t_ldB h 7 rfl rfl ?_
              | refine t_ldB h 8 rfl rfl ?_
              | refine t_ldB h 9 rfl rfl ?_
              | refine t_ldO h 0 rfl rfl rfl ?_
              | refine t_ldO h 1 rfl rfl rfl ?_
              | refine t_ldO h 2 rfl rfl rfl ?_
              | refine t_ldO h 3 rfl rfl rfl ?_
              | refine t_ldO h 4 rfl rfl rfl ?_
              | refine t_ldO h 5 rfl rfl rfl ?_
              | refine t_ldO h 6 rfl rfl rfl ?_
              | refine t_ldO h 7 rfl rfl rfl ?_
              | refine t_ldO h 8 rfl rfl rfl ?_
              | refine t_ldO h 9 rfl rfl rfl ?_
              | refine t_keepB h 0 rfl rfl ?_
              | refine t_keepB h 1 rfl rfl ?_
              | refine t_keepB h 2 rfl rfl ?_
              | refine t_keepB h 3 rfl rfl ?_
              | refine t_keepB h 4 rfl rfl ?_
              | refine t_keepB h 5 rfl rfl ?_
              | refine t_keepB h 6 rfl rfl ?_
              | refine t_keepB h 7 rfl rfl ?_
              | refine t_keepB h 8 rfl rfl ?_
              | refine t_keepB h 9 rfl rfl ?_
              | (refine t_stB h 0 rfl (by simp [setL]) (by simp [Value.oneCell']) fun w h => ?_; try dsimp only [List.set, setL, List.eraseIdx, List.cons_append, List.nil_append, List.append_nil, Nat.zero_add, Nat.reduceAdd, Sl.v] at h)
              | (refine t_stB h 1 rfl (by simp [setL]) (by simp [Value.oneCell']) fun w h => ?_; try dsimp only [List.set, setL, List.eraseIdx, List.cons_append, List.nil_append, List.append_nil, Nat.zero_add, Nat.reduceAdd, Sl.v] at h)
              | (refine t_stB h 2 rfl (by simp [setL]) (by simp [Value.oneCell']) fun w h => ?_; try dsimp only [List.set, setL, List.eraseIdx, List.cons_append, List.nil_append, List.append_nil, Nat.zero_add, Nat.reduceAdd, Sl.v] at h)
              | (refine t_stB h 3 rfl (by simp [setL]) (by simp [Value.oneCell']) fun w h => ?_; try dsimp only [List.set, setL, List.eraseIdx, List.cons_append, List.nil_append, List.append_nil, Nat.zero_add, Nat.reduceAdd, Sl.v] at h)
              | (refine t_stB h 4 rfl (by simp [setL]) (by simp [Value.oneCell']) fun w h => ?_; try dsimp only [List.set, setL, List.eraseIdx, List.cons_append, List.nil_append, List.append_nil, Nat.zero_add, Nat.reduceAdd, Sl.v] at h)
              | (refine t_stB h 5 rfl (by simp [setL]) (by simp [Value.oneCell']) fun w h => ?_; try dsimp only [List.set, setL, List.eraseIdx, List.cons_append, List.nil_append, List.append_nil, Nat.zero_add, Nat.reduceAdd, Sl.v] at h)
              | (refine t_stB h 6 rfl (by simp [setL]) (by simp [Value.oneCell']) fun w h => ?_; try dsimp only [List.set, setL, List.eraseIdx, List.cons_append, List.nil_append, List.append_nil, Nat.zero_add, Nat.reduceAdd, Sl.v] at h)
              | (refine t_stB h 7 rfl (by simp [setL]) (by simp [Value.oneCell']) fun w h => ?_; try dsimp only [List.set, setL, List.eraseIdx, List.cons_append, List.nil_append, List.append_nil, Nat.zero_add, Nat.reduceAdd, Sl.v] at h)
              | (refine t_stB h 8 rfl (by simp [setL]) (by simp [Value.oneCell']) fun w h => ?_; try dsimp only [List.set, setL, List.eraseIdx, List.cons_append, List.nil_append, List.append_nil, Nat.zero_add, Nat.reduceAdd, Sl.v] at h)
              | (refine t_stB h 9 rfl (by simp [setL]) (by simp [Value.oneCell']) fun w h => ?_; try dsimp only [List.set, setL, List.eraseIdx, List.cons_append, List.nil_append, List.append_nil, Nat.zero_add, Nat.reduceAdd, Sl.v] at h)
              | refine t_newB h (by simp [Value.oneCell']) fun w b h hb => ?_
              | refine t_nil ?_
              | refine t_true rfl ?_
              | refine t_false rfl ?_
              | refine t_yes rfl ?_
              | refine t_nyes rfl ?_
              | refine t_no (by decide) ?_
              | refine t_nno (by decide) ?_
              | refine t_need (by decide) ?_)
            try dsimp only [List.set, setL, List.eraseIdx, List.cons_append, List.nil_append, List.append_nil, Nat.zero_add, Nat.reduceAdd, Sl.v] at h
            refine t_jmp ⟨(), rfl, rfl⟩
          rintro _ w' hw
          rw [hw]
          refine t_bindQ (fun x w' => x = (free, ((ids : Nat) : Int), ()) ∧ w' = w) ?_ ?_
          · refine t_no (by decide) (t_jmp ⟨(free, ((ids : Nat) : Int), ()), rfl, rfl, rfl⟩)
          rintro _ w' ⟨rfl, hw⟩
          rw [hw]
          dsimp only
          first | refine t_fn (drvq_Free_fn) h (by repeat (first | exact Sub.nil _ | apply Sub.c0 | apply Sub.c1 | apply Sub.c2 | apply Sub.c3 | apply Sub.c4 | apply Sub.c5 | apply Sub.c6 | apply Sub.c7 | apply Sub.c8 | apply Sub.c9 | apply Sub.c10 | apply Sub.c11 | exact Sub.refl _)) noRo fun w h => ?_ | refine t_fnn (drvq_Free_fn) h (by repeat (first | exact Sub.nil _ | apply Sub.c0 | apply Sub.c1 | apply Sub.c2 | apply Sub.c3 | apply Sub.c4 | apply Sub.c5 | apply Sub.c6 | apply Sub.c7 | apply Sub.c8 | apply Sub.c9 | apply Sub.c10 | apply Sub.c11 | exact Sub.refl _)) noRo fun w h => ?_
          try dsimp only [List.set, setL, List.eraseIdx, List.cons_append, List.nil_append, List.append_nil, Nat.zero_add, Nat.reduceAdd, Sl.v] at h
          refine t_nyes hfree ?_
          first | refine t_fnE (drvq_Held_fn (Inv_i64 hq) (by rw [hcount _ _ hids]; omega)) h (by repeat (first | exact Sub.nil _ | apply Sub.c0 | apply Sub.c1 | apply Sub.c2 | apply Sub.c3 | apply Sub.c4 | apply Sub.c5 | apply Sub.c6 | apply Sub.c7 | apply Sub.c8 | apply Sub.c9 | apply Sub.c10 | apply Sub.c11 | exact Sub.refl _)) noRo ?_ | refine t_fnnE (drvq_Held_fn (Inv_i64 hq) (by rw [hcount _ _ hids]; omega)) h (by repeat (first | exact Sub.nil _ | apply Sub.c0 | apply Sub.c1 | apply Sub.c2 | apply Sub.c3 | apply Sub.c4 | apply Sub.c5 | apply Sub.c6 | apply Sub.c7 | apply Sub.c8 | apply Sub.c9 | apply Sub.c10 | apply Sub.c11 | exact Sub.refl _)) noRo ?_
          rintro s2 post ⟨hn2, rfl⟩ w h
          try dsimp only [List.set, setL, List.eraseIdx, List.cons_append, List.nil_append, List.append_nil, Nat.zero_add, Nat.reduceAdd, Sl.v] at h
          rw [hn2, hcount _ _ hids]
          refine t_nyes rfl ?_
          rw [w64 (n := (i : Int) + 1) (by omega)]
          refine t_next ?_
          rw [hK2 0 (by decide)]
          exact hJ (x1.n - (i + 1)) (free, ((ids : Nat) : Int), ((i + 1 : Nat) : Int), ()) w (by omega) ⟨i + 1, ids, free, q, l, by omega, rfl, rfl, hq, hl, hfree, hids, h.weak (by repeat (first | exact Weak.refl _ | apply Weak.c0 | apply Weak.c1 | apply Weak.c2 | apply Weak.c3 | apply Weak.c4 | apply Weak.c5 | apply Weak.c6 | apply Weak.c7 | apply Weak.c8 | apply Weak.c9 | apply Weak.c10 | apply Weak.c11 | apply Weak.drop))⟩
    · first | refine t_fn (fixed15) h (by repeat (first | exact Sub.nil _ | apply Sub.c0 | apply Sub.c1 | apply Sub.c2 | apply Sub.c3 | apply Sub.c4 | apply Sub.c5 | apply Sub.c6 | apply Sub.c7 | apply Sub.c8 | apply Sub.c9 | apply Sub.c10 | apply Sub.c11 | exact Sub.refl _)) noRo fun w h => ?_ | refine t_fnn (fixed15) h (by repeat (first | exact Sub.nil _ | apply Sub.c0 | apply Sub.c1 | apply Sub.c2 | apply Sub.c3 | apply Sub.c4 | apply Sub.c5 | apply Sub.c6 | apply Sub.c7 | apply Sub.c8 | apply Sub.c9 | apply Sub.c10 | apply Sub.c11 | exact Sub.refl _)) noRo fun w h => ?_
      try dsimp only [List.set, setL, List.eraseIdx, List.cons_append, List.nil_append, List.append_nil, Nat.zero_add, Nat.reduceAdd, Sl.v] at h
      exact t_ret ⟨rfl, h.weak (by repeat (first | exact Weak.refl _ | apply Weak.c0 | apply Weak.c1 | apply Weak.c2 | apply Weak.c3 | apply Weak.c4 | apply Weak.c5 | apply Weak.c6 | apply Weak.c7 | apply Weak.c8 | apply Weak.c9 | apply Weak.c10 | apply Weak.c11 | apply Weak.drop))⟩
  · first | refine t_fn (fixed15) h (by repeat (first | exact Sub.nil _ | apply Sub.c0 | apply Sub.c1 | apply Sub.c2 | apply Sub.c3 | apply Sub.c4 | apply Sub.c5 | apply Sub.c6 | apply Sub.c7 | apply Sub.c8 | apply Sub.c9 | apply Sub.c10 | apply Sub.c11 | exact Sub.refl _)) noRo fun w h => ?_ | refine t_fnn (fixed15) h (by repeat (first | exact Sub.nil _ | apply Sub.c0 | apply Sub.c1 | apply Sub.c2 | apply Sub.c3 | apply Sub.c4 | apply Sub.c5 | apply Sub.c6 | apply Sub.c7 | apply Sub.c8 | apply Sub.c9 | apply Sub.c10 | apply Sub.c11 | exact Sub.refl _)) noRo fun w h => ?_
    try dsimp only [List.set, setL, List.eraseIdx, List.cons_append, List.nil_append, List.append_nil, Nat.zero_add, Nat.reduceAdd, Sl.v] at h
    exact t_ret ⟨rfl, h.weak (by repeat (first | exact Weak.refl _ | apply Weak.c0 | apply Weak.c1 | apply Weak.c2 | apply Weak.c3 | apply Weak.c4 | apply Weak.c5 | apply Weak.c6 | apply Weak.c7 | apply Weak.c8 | apply Weak.c9 | apply Weak.c10 | apply Weak.c11 | apply Weak.drop))⟩
end Go.Proofs.Ythfcneahnldgnaa
