/- DrvqNothing: as long as nothing was given back nothing is reaped. -/
import Derived.Test.YthfcneahnldgnaaDrvqFull
import Derived.Test.YthfcneahnldgnaaDrvqSlots
import Derived.Test.YthfcneahnldgnaaClone15
namespace Go.Proofs.Ythfcneahnldgnaa
open Go Vk
set_option linter.unusedSimpArgs false
set_option linter.unusedVariables false
/-- A queue over a ring at 0 of n places, of which so many were posted one by one, and nothing was given back. -/
structure Nothing (n : Int) (l : List UInt8) (q : M.DQ) : Prop where
  inv : q.Inv
  len : l.length = 1024
  lay : q.l = ⟨0, n, 512, 516⟩
  back : q.back = ⟨0, true⟩
  next : (q.free = n ∧ q.next = ⟨0, true⟩) ∨ (q.free < n ∧ (q.next.at_ = n - q.free ∨ q.free = 0))
  says : M.says (M.descAt l 0).flags true ≠ 2
theorem Nothing.post {n : Int} (hn : 1 ≤ n ∧ n ≤ 8) {l : List UInt8} {q : M.DQ} (h : Nothing n l q) (p : M.Part) (hp : M.partsOk 1024 false [p] = true) : Nothing n (M.postM1 l q [p]) (M.postQ1 l q [p]) := by
  by_cases hE : M.postE l q [p] = 0
  · have hm : M.postM1 l q [p] = M.postMem l q [p] := if_pos hE
    have hq : M.postQ1 l q [p] = M.postQ l q [p] := if_pos hE
    have hE' : M.mayPost l.length q.free [p] = 0 := hE
    have hfree := (mayPost_ok hE').2.2.2
    simp only [List.length_singleton] at hfree
    obtain ⟨hinv, hlen, hlay, hback, hnext, hsays⟩ := h
    have hsz : q.l.size = n := by rw [hlay]
    have hrg : q.l.ring = 0 := by rw [hlay]
    have hring := postMem_ring hinv (by rw [hrg, hsz]; omega) hE' (by omega)
    have hnx : 0 ≤ q.next.at_ ∧ q.next.at_ < n := by have := hinv.ok.next; rw [hsz] at this; exact this
    have hfb := hinv.ok.free
    have hlt := leastId_lt hinv (by omega)
    have hpo := partsOk_all hp p (by simp)
    simp only [List.length_singleton] at hring
    rw [ringGo_cons] at hring
    simp only [M.ringGo, hrg, Int.zero_add] at hring
    have hsp := spotNext_one (s := q.next) (size := q.l.size) hinv.ok.next hinv.ok.size
    have hs' : (M.postQ l q [p]).next = (M.spotNext q.next 1 q.l.size).1 := by
      simp only [M.postQ, M.postAll, M.postGo]
      rw [postStep_s]
    rw [hm, hq]
    refine ⟨postQ_inv (N := l.length) hinv hE', by rw [postMem_length]; exact hlen, hlay, hback, ?_, ?_⟩
    · have hf' : (M.postQ l q [p]).free = q.free - 1 := by simp [M.postQ]
      rw [hf', hs', hsp, hsz]
      right
      refine ⟨by omega, ?_⟩
      rcases hnext with ⟨h1, h2⟩ | ⟨h1, h2⟩
      · rw [h2]; dsimp only
        split
        · right; omega
        · left; dsimp only; omega
      · split
        · right; omega
        · left; dsimp only; omega
    · rw [hring]
      have hfl := postFlags_lt 1 0 p q.next.wrap
      by_cases h0 : q.next.at_ = 0
      · rw [h0, Int.mul_zero]
        have hw : q.next.wrap = true := by
          rcases hnext with ⟨h1, h2⟩ | ⟨h1, h2⟩
          · rw [h2]
          · omega
        unfold M.descAt
        rw [sl16_same (buildB_length _) (by omega), descOf_buildB _ ⟨by dsimp only; omega, by dsimp only; omega, by dsimp only; omega, hfl⟩]
        dsimp only
        rw [postFlags_says, if_pos hw]
        decide
      · unfold M.descAt
        rw [sl16_other (by omega) (by rw [buildB_length]; omega) (by omega)]
        exact hsays
  · obtain ⟨h1, h2⟩ := postQ1_no hE
    rw [h1, h2]; exact h
theorem Nothing.reap {n : Int} (hn : 1 ≤ n) {l : List UInt8} {q : M.DQ} (h : Nothing n l q) : M.reapIs l q = false ∧ M.reapE l q = 0 ∧ M.reapId l q = 0 ∧ M.reapLen l q = 0 ∧ M.reapQ1 l q = q := by
  have hr : q.l.ring + 16 * q.back.at_ = 0 := by rw [h.lay, h.back]; rfl
  have hu : ¬ M.reapUsed l q := by
    unfold M.reapUsed
    rw [reapDesc_at (by rw [hr, h.len]; omega), hr, h.back]
    exact h.says
  have hi : M.reapIs l q = false := by simp [M.reapIs, hu]
  refine ⟨hi, by simp [M.reapE, hu], by simp [M.reapId, hi], by simp [M.reapLen, hi], reapQ1_no hi⟩
theorem DrvqNothing_con (size : Int) (x1 : Sl) (lens : List Int) (hx : x1.n ≤ 9223372036854775807) : Con Try.prog (fun w => Rd w x1 1 (intsV lens)) 5 #[.int .i64 size, .slice x1.a x1.n x1.c] .B [] true [] := by
  intro w0 W w B hro h
  refine aqueductlaw15_DrvqNothing.calls size x1 ?_
  unfold aqueductlaw15_DrvqNothing.T
  have hb := band_le size 7 (by decide) (by decide)
  have hln : lens.length = x1.n := by have := (hro w h.kept).len; simp [intsV] at this; omega
  rw [w64 (n := 1 + band .i64 size 7) (by omega)]
  generalize hn : 1 + band .i64 size 7 = n
  have hn8 : 1 ≤ n ∧ n ≤ 8 := by omega
  first | refine t_fnE (laid_ok 1024 ⟨0, n, 512, 516⟩ ⟨none, 0, 0⟩ (by unfold i64R; dsimp only; omega) (by unfold i64R; dsimp only; omega) (by unfold i64R; dsimp only; omega) (by unfold i64R; dsimp only; omega) (laid_1024 n hn8)) h (by repeat (first | exact Sub.nil _ | apply Sub.c0 | apply Sub.c1 | apply Sub.c2 | apply Sub.c3 | apply Sub.c4 | apply Sub.c5 | apply Sub.c6 | apply Sub.c7 | apply Sub.c8 | apply Sub.c9 | apply Sub.c10 | apply Sub.c11 | exact Sub.refl _)) noRo ?_ | refine t_fnnE (laid_ok 1024 ⟨0, n, 512, 516⟩ ⟨none, 0, 0⟩ (by unfold i64R; dsimp only; omega) (by unfold i64R; dsimp only; omega) (by unfold i64R; dsimp only; omega) (by unfold i64R; dsimp only; omega) (laid_1024 n hn8)) h (by repeat (first | exact Sub.nil _ | apply Sub.c0 | apply Sub.c1 | apply Sub.c2 | apply Sub.c3 | apply Sub.c4 | apply Sub.c5 | apply Sub.c6 | apply Sub.c7 | apply Sub.c8 | apply Sub.c9 | apply Sub.c10 | apply Sub.c11 | exact Sub.refl _)) noRo ?_
  rintro _ _ ⟨mb, kb, qb, xb, rfl, rfl⟩ w h
  try dsimp only [List.set, setL, List.eraseIdx, List.cons_append, List.nil_append, List.append_nil, Nat.zero_add, Nat.reduceAdd, Sl.v] at h
  have h0 : Nothing n (M.newMem (M.laid0 1024) ⟨0, n, 512, 516⟩) (M.newQ ⟨0, n, 512, 516⟩) := by
    refine ⟨newQ_inv (by rw [laid0_length]; decide) (laid_1024 n hn8), by rw [newMem_length, laid0_1024], rfl, rfl, .inl ⟨rfl, rfl⟩, ?_⟩
    have e : M.descAt (M.newMem (M.laid0 1024) ⟨0, n, 512, 516⟩) 0 = ⟨0, 0, 0, 0⟩ := by
      unfold M.newMem M.descAt
      dsimp only
      rw [sl16_other (by simp [laid0_1024]) (by simp [laid0_1024]) (by omega), sl16_other (by simp [laid0_1024]) (by simp [laid0_1024]) (by omega)]
      have e2 : M.sl16 (M.writeM (M.laid0 1024) 0 (List.replicate (16 * n).toNat 0)) 0 = List.replicate 16 0 := by
        apply List.ext_getElem?
        intro i
        rw [writeM_eq (by simp [laid0_1024]; omega)]
        rcases Nat.lt_or_ge i 16 with hi | hi
        · rw [sl16_get i hi, getElem?_wr _ _ _ (by simp [laid0_1024]; omega), if_pos (by simp; omega), List.getElem?_replicate_of_lt (by omega), List.getElem?_replicate_of_lt hi]
        · rw [List.getElem?_eq_none (by rw [sl16_length (by rw [wr_length _ _ _ (by simp [laid0_1024]; omega), laid0_1024]; omega)]; exact hi), List.getElem?_eq_none (by simpa using hi)]
      rw [e2]
      rfl
    rw [e]
    decide
  generalize M.newMem (M.laid0 1024) ⟨0, n, 512, 516⟩ = l0 at *
  generalize M.newQ ⟨0, n, 512, 516⟩ = q0 at *
  repeat (first
    | refine t_tickS h fun w h => ?_
    | refine t_keepN ?_
    | refine t_ldB h 0 rfl rfl ?_
    | refine t_ldB h 1 rfl rfl ?_
    | refine t_ldB h 2 rfl rfl ?_
    | refine t_ldB h 3 rfl rfl ?_
    | refine t_ldB h 4 rfl rfl ?_
    | refine t_ldB h 5 rfl rfl ?_
    | refine t_ldB h 6 rfl rfl ?_
    | refine t_ldB h 7 rfl rfl ?_
    | refine t_ldB h 8 rfl rfl ?_
    | refine t_ldB h 9 rfl rfl ?_
    | refine t_ldO h 0 rfl rfl rfl ?_
    | refine t_ldO h 1 rfl rfl rfl ?_
    | refine t_ldO h 2 rfl rfl rfl ?_
    | refine t_ldO h 3 rfl rfl rfl ?_
    | refine t_ldO h 4 rfl rfl rfl ?_
    | refine t_ldO h 5 rfl rfl rfl ?_
    | refine t_ldO h 6 rfl rfl rfl ?_
    | refine t_ldO h 7 rfl rfl rfl ?_
    | refine t_ldO h 8 rfl rfl rfl ?_
    | refine t_ldO h 9 rfl rfl rfl ?_
    | refine t_keepB h 0 rfl rfl ?_
    | refine t_keepB h 1 rfl rfl ?_
    | refine t_keepB h 2 rfl rfl ?_
    | refine t_keepB h 3 rfl rfl ?_
    | refine t_keepB h 4 rfl rfl ?_
    | refine t_keepB h 5 rfl rfl ?_
    | refine t_keepB h 6 rfl rfl ?_
    | refine t_keepB h 7 rfl rfl ?_
    | refine t_keepB h 8 rfl rfl ?_
    | refine t_keepB h 9 rfl rfl ?_
    | (refine t_stB h 0 rfl (by simp [setL]) (by simp [Value.oneCell']) fun w h => ?_; try dsimp only [List.set, setL, List.eraseIdx, List.cons_append, List.nil_append, List.append_nil, Nat.zero_add, Nat.reduceAdd, Sl.v] at h)
    | (refine t_stB h 1 rfl (by simp [setL]) (by simp [Value.oneCell']) fun w h => ?_; try dsimp only [List.set, setL, List.eraseIdx, List.cons_append, List.nil_append, List.append_nil, Nat.zero_add, Nat.reduceAdd, Sl.v] at h)
    | (refine t_stB h 2 rfl (by simp [setL]) (by simp [Value.oneCell']) fun w h => ?_; try dsimp only [List.set, setL, List.eraseIdx, List.cons_append, List.nil_append, List.append_nil, Nat.zero_add, Nat.reduceAdd, Sl.v] at h)
    | (refine t_stB h 3 rfl (by simp [setL]) (by simp [Value.oneCell']) fun w h => ?_; try dsimp only [List.set, setL, List.eraseIdx, List.cons_append, List.nil_append, List.append_nil, Nat.zero_add, Nat.reduceAdd, Sl.v] at h)
    | (refine t_stB h 4 rfl (by simp [setL]) (by simp [Value.oneCell']) fun w h => ?_; try dsimp only [List.set, setL, List.eraseIdx, List.cons_append, List.nil_append, List.append_nil, Nat.zero_add, Nat.reduceAdd, Sl.v] at h)
    | (refine t_stB h 5 rfl (by simp [setL]) (by simp [Value.oneCell']) fun w h => ?_; try dsimp only [List.set, setL, List.eraseIdx, List.cons_append, List.nil_append, List.append_nil, Nat.zero_add, Nat.reduceAdd, Sl.v] at h)
    | (refine t_stB h 6 rfl (by simp [setL]) (by simp [Value.oneCell']) fun w h => ?_; try dsimp only [List.set, setL, List.eraseIdx, List.cons_append, List.nil_append, List.append_nil, Nat.zero_add, Nat.reduceAdd, Sl.v] at h)
    | (refine t_stB h 7 rfl (by simp [setL]) (by simp [Value.oneCell']) fun w h => ?_; try dsimp only [List.set, setL, List.eraseIdx, List.cons_append, List.nil_append, List.append_nil, Nat.zero_add, Nat.reduceAdd, Sl.v] at h)
    | (refine t_stB h 8 rfl (by simp [setL]) (by simp [Value.oneCell']) fun w h => ?_; try dsimp only [List.set, setL, List.eraseIdx, List.cons_append, List.nil_append, List.append_nil, Nat.zero_add, Nat.reduceAdd, Sl.v] at h)
    | (refine t_stB h 9 rfl (by simp [setL]) (by simp [Value.oneCell']) fun w h => ?_; try dsimp only [List.set, setL, List.eraseIdx, List.cons_append, List.nil_append, List.append_nil, Nat.zero_add, Nat.reduceAdd, Sl.v] at h)
    | refine t_newB h (by simp [Value.oneCell']) fun w b h hb => ?_
    | refine t_nil ?_
    | refine t_true rfl ?_
    | refine t_false rfl ?_
    | refine t_yes rfl ?_
    | refine t_nyes rfl ?_
    | refine t_no (by decide) ?_
    | refine t_nno (by decide) ?_
    | refine t_need (by decide) ?_)
  try dsimp only [List.set, setL, List.eraseIdx, List.cons_append, List.nil_append, List.append_nil, Nat.zero_add, Nat.reduceAdd, Sl.v] at h
  refine t_bindQ (fun _ w' => ∃ q l, Nothing n l q ∧ St w0 W w' (dqR qb mb q :: memR mb l :: B)) ?_ ?_
  · refine t_loop (fun m st w' => ∃ (i : Nat) (q : M.DQ) (l : List UInt8), i ≤ x1.n ∧ m = x1.n - i ∧ st = ((i : Int), ()) ∧ Nothing n l q ∧ St w0 W w' (dqR qb mb q :: memR mb l :: B)) x1.n ⟨0, q0, l0, by omega, rfl, rfl, h0, h.weak (by repeat (first | exact Weak.refl _ | apply Weak.c0 | apply Weak.c1 | apply Weak.c2 | apply Weak.c3 | apply Weak.c4 | apply Weak.c5 | apply Weak.c6 | apply Weak.c7 | apply Weak.c8 | apply Weak.c9 | apply Weak.c10 | apply Weak.c11 | apply Weak.drop))⟩ ?_
    clear h0 h
    rintro m st w ⟨i, q, l, hi, rfl, rfl, hq, h⟩ Ks hJ hK
    dsimp only
    have done : ∃ s : Unit, ([] : List Value) = vT [] s ∧ ∃ q l, Nothing n l q ∧ St w0 W w (dqR qb mb q :: memR mb l :: B) := ⟨(), rfl, q, l, hq, h⟩
    refine t_if (fun c1 => ?_) (fun c1 => t_next (by rw [hK 0 (by decide)]; exact done))
    refine t_if (fun c2 => ?_) (fun c2 => t_next (by rw [hK 0 (by decide)]; exact done))
    clear done
    refine t_tickS h fun w h => ?_
    have hlt : i < lens.length := by omega
    refine t_need (by omega) (t_nilRd (hro w h.kept) (by omega) fun a ha => ?_)
    rw [Int.toNat_natCast]
    refine t_ldRd (k := .I) (x := lens.getD i 0) (hro w h.kept) ha (by rw [intsV_get hlt]; rfl) ?_
    refine t_need (by omega) (t_nilRd (hro w h.kept) (by omega) fun a ha => ?_)
    refine t_ldRd (k := .I) (x := lens.getD i 0) (hro w h.kept) ha (by rw [intsV_get hlt]; rfl) ?_
    generalize lens.getD i 0 = v
    have hb3 := band_le v 63 (by decide) (by decide)
    rw [w64 (n := 1 + band .i64 v 63) (by omega)]
    repeat (first
      | refine t_tickS h fun w h => ?_
      | refine t_keepN ?_
      | refine t_ldB h 0 rfl rfl ?_
      | refine t_ldB h 1 rfl rfl ?_
      | refine t_ldB h 2 rfl rfl ?_
      | refine t_ldB h 3 rfl rfl ?_
      | refine t_ldB h 4 rfl rfl ?_
      | refine t_ldB h 5 rfl rfl ?_
      | refine t_ldB h 6 rfl rfl ?_
      | refine t_ldB h 7 rfl rfl ?_
      | refine t_ldB h 8 rfl rfl ?_
      | refine t_ldB h 9 rfl rfl ?_
      | refine t_ldO h 0 rfl rfl rfl ?_
      | refine t_ldO h 1 rfl rfl rfl ?_
      | refine t_ldO h 2 rfl rfl rfl ?_
      | refine t_ldO h 3 rfl rfl rfl ?_
      | refine t_ldO h 4 rfl rfl rfl ?_
      | refine t_ldO h 5 rfl rfl rfl ?_
      | refine t_ldO h 6 rfl rfl rfl ?_
      | refine t_ldO h 7 rfl rfl rfl ?_
      | refine t_ldO h 8 rfl rfl rfl ?_
      | refine t_ldO h 9 rfl rfl rfl ?_
      | refine t_keepB h 0 rfl rfl ?_
      | refine t_keepB h 1 rfl rfl ?_
      | refine t_keepB h 2 rfl rfl ?_
      | refine t_keepB h 3 rfl rfl ?_
      | refine t_keepB h 4 rfl rfl ?_
      | refine t_keepB h 5 rfl rfl ?_
      | refine t_keepB h 6 rfl rfl ?_
      | refine t_keepB h 7 rfl rfl ?_
      | refine t_keepB h 8 rfl rfl ?_
      | refine t_keepB h 9 rfl rfl ?_
      | (refine t_stB h 0 rfl (by simp [setL]) (by simp [Value.oneCell']) fun w h => ?_; try dsimp only [List.set, setL, List.eraseIdx, List.cons_append, List.nil_append, List.append_nil, Nat.zero_add, Nat.reduceAdd, Sl.v] at h)
      | (refine t_stB h 1 rfl (by simp [setL]) (by simp [Value.oneCell']) fun w h => ?_; try dsimp only [List.set, setL, List.eraseIdx, List.cons_append, List.nil_append, List.append_nil, Nat.zero_add, Nat.reduceAdd, Sl.v] at h)
      | (refine t_stB h 2 rfl (by simp [setL]) (by simp [Value.oneCell']) fun w h => ?_; try dsimp only [List.set, setL, List.eraseIdx, List.cons_append, List.nil_append, List.append_nil, Nat.zero_add, Nat.reduceAdd, Sl.v] at h)
      | (refine t_stB h 3 rfl (by simp [setL]) (by simp [Value.oneCell']) fun w h => ?_; try dsimp only [List.set, setL, List.eraseIdx, List.cons_append, List.nil_append, List.append_nil, Nat.zero_add, Nat.reduceAdd, Sl.v] at h)
      | (refine t_stB h 4 rfl (by simp [setL]) (by simp [Value.oneCell']) fun w h => ?_; try dsimp only [List.set, setL, List.eraseIdx, List.cons_append, List.nil_append, List.append_nil, Nat.zero_add, Nat.reduceAdd, Sl.v] at h)
      | (refine t_stB h 5 rfl (by simp [setL]) (by simp [Value.oneCell']) fun w h => ?_; try dsimp only [List.set, setL, List.eraseIdx, List.cons_append, List.nil_append, List.append_nil, Nat.zero_add, Nat.reduceAdd, Sl.v] at h)
      | (refine t_stB h 6 rfl (by simp [setL]) (by simp [Value.oneCell']) fun w h => ?_; try dsimp only [List.set, setL, List.eraseIdx, List.cons_append, List.nil_append, List.append_nil, Nat.zero_add, Nat.reduceAdd, Sl.v] at h)
      | (refine t_stB h 7 rfl (by simp [setL]) (by simp [Value.oneCell']) fun w h => ?_; try dsimp only [List.set, setL, List.eraseIdx, List.cons_append, List.nil_append, List.append_nil, Nat.zero_add, Nat.reduceAdd, Sl.v] at h)
      | (refine t_stB h 8 rfl (by simp [setL]) (by simp [Value.oneCell']) fun w h => ?_; try dsimp only [List.set, setL, List.eraseIdx, List.cons_append, List.nil_append, List.append_nil, Nat.zero_add, Nat.reduceAdd, Sl.v] at h)
      | (refine t_stB h 9 rfl (by simp [setL]) (by simp [Value.oneCell']) fun w h => ?_; try dsimp only [List.set, setL, List.eraseIdx, List.cons_append, List.nil_append, List.append_nil, Nat.zero_add, Nat.reduceAdd, Sl.v] at h)
      | refine t_newB h (by simp [Value.oneCell']) fun w b h hb => ?_
      | refine t_nil ?_
      | refine t_true rfl ?_
      | refine t_false rfl ?_
      | refine t_yes rfl ?_
      | refine t_nyes rfl ?_
      | refine t_no (by decide) ?_
      | refine t_nno (by decide) ?_
      | refine t_need (by decide) ?_)
    try dsimp only [List.set, setL, List.eraseIdx, List.cons_append, List.nil_append, List.append_nil, Nat.zero_add, Nat.reduceAdd, Sl.v] at h
    generalize hp : (!decide (band .i64 v 64 = 0)) = wr at h
    replace h := St.blkOwn 1 3 h rfl
    have hpok : M.partsOk 1024 false [⟨600, 1 + band .i64 v 63, wr⟩] = true := by simp [M.partsOk, M.mayAt]; omega
    first | refine t_fn (drvq_Post_own (l := l) (q := q) ⟨some ⟨_, 0, none⟩, 1, 1⟩ [⟨600, 1 + band .i64 v 63, wr⟩] hq.inv (by rw [hq.len]; omega) (by simp [i64R]; omega) (by dsimp only; omega)) h (by repeat (first | exact Sub.nil _ | apply Sub.c0 | apply Sub.c1 | apply Sub.c2 | apply Sub.c3 | apply Sub.c4 | apply Sub.c5 | apply Sub.c6 | apply Sub.c7 | apply Sub.c8 | apply Sub.c9 | apply Sub.c10 | apply Sub.c11 | exact Sub.refl _)) noRo fun w h => ?_ | refine t_fnn (drvq_Post_own (l := l) (q := q) ⟨some ⟨_, 0, none⟩, 1, 1⟩ [⟨600, 1 + band .i64 v 63, wr⟩] hq.inv (by rw [hq.len]; omega) (by simp [i64R]; omega) (by dsimp only; omega)) h (by repeat (first | exact Sub.nil _ | apply Sub.c0 | apply Sub.c1 | apply Sub.c2 | apply Sub.c3 | apply Sub.c4 | apply Sub.c5 | apply Sub.c6 | apply Sub.c7 | apply Sub.c8 | apply Sub.c9 | apply Sub.c10 | apply Sub.c11 | exact Sub.refl _)) noRo fun w h => ?_
    try dsimp only [List.set, setL, List.eraseIdx, List.cons_append, List.nil_append, List.append_nil, Nat.zero_add, Nat.reduceAdd, Sl.v] at h
    have hq2 := hq.post hn8 _ hpok
    generalize M.postQ1 l q _ = q2 at *
    generalize M.postM1 l q _ = l2 at *
    have hr := hq2.reap hn8.1
    first | refine t_fn (drvq_Reap_fn (l := l2) (q := q2) hq2.inv (by rw [hq2.len]; omega)) h (by repeat (first | exact Sub.nil _ | apply Sub.c0 | apply Sub.c1 | apply Sub.c2 | apply Sub.c3 | apply Sub.c4 | apply Sub.c5 | apply Sub.c6 | apply Sub.c7 | apply Sub.c8 | apply Sub.c9 | apply Sub.c10 | apply Sub.c11 | exact Sub.refl _)) noRo fun w h => ?_ | refine t_fnn (drvq_Reap_fn (l := l2) (q := q2) hq2.inv (by rw [hq2.len]; omega)) h (by repeat (first | exact Sub.nil _ | apply Sub.c0 | apply Sub.c1 | apply Sub.c2 | apply Sub.c3 | apply Sub.c4 | apply Sub.c5 | apply Sub.c6 | apply Sub.c7 | apply Sub.c8 | apply Sub.c9 | apply Sub.c10 | apply Sub.c11 | exact Sub.refl _)) noRo fun w h => ?_
    try dsimp only [List.set, setL, List.eraseIdx, List.cons_append, List.nil_append, List.append_nil, Nat.zero_add, Nat.reduceAdd, Sl.v] at h
    rw [hr.1, hr.2.1, hr.2.2.1, hr.2.2.2.1]
    rw [hr.2.2.2.2] at h
    repeat (first
      | refine t_tickS h fun w h => ?_
      | refine t_keepN ?_
      | refine t_ldB h 0 rfl rfl ?_
      | refine t_ldB h 1 rfl rfl ?_
      | refine t_ldB h 2 rfl rfl ?_
      | refine t_ldB h 3 rfl rfl ?_
      | refine t_ldB h 4 rfl rfl ?_
      | refine t_ldB h 5 rfl rfl ?_
      | refine t_ldB h 6 rfl rfl ?_
      | refine t_ldB h 7 rfl rfl ?_
      | refine t_ldB h 8 rfl rfl ?_
      | refine t_ldB h 9 rfl rfl ?_
      | refine t_ldO h 0 rfl rfl rfl ?_
      | refine t_ldO h 1 rfl rfl rfl ?_
      | refine t_ldO h 2 rfl rfl rfl ?_
      | refine t_ldO h 3 rfl rfl rfl ?_
      | refine t_ldO h 4 rfl rfl rfl ?_
      | refine t_ldO h 5 rfl rfl rfl ?_
      | refine t_ldO h 6 rfl rfl rfl ?_
      | refine t_ldO h 7 rfl rfl rfl ?_
      | refine t_ldO h 8 rfl rfl rfl ?_
      | refine t_ldO h 9 rfl rfl rfl ?_
      | refine t_keepB h 0 rfl rfl ?_
      | refine t_keepB h 1 rfl rfl ?_
      | refine t_keepB h 2 rfl rfl ?_
      | refine t_keepB h 3 rfl rfl ?_
      | refine t_keepB h 4 rfl rfl ?_
      | refine t_keepB h 5 rfl rfl ?_
      | refine t_keepB h 6 rfl rfl ?_
      | refine t_keepB h 7 rfl rfl ?_
      | refine t_keepB h 8 rfl rfl ?_
      | refine t_keepB h 9 rfl rfl ?_
      | (refine t_stB h 0 rfl (by simp [setL]) (by simp [Value.oneCell']) fun w h => ?_; try dsimp only [List.set, setL, List.eraseIdx, List.cons_append, List.nil_append, List.append_nil, Nat.zero_add, Nat.reduceAdd, Sl.v] at h)
      | (refine t_stB h 1 rfl (by simp [setL]) (by simp [Value.oneCell']) fun w h => ?_; try dsimp only [List.set, setL, List.eraseIdx, List.cons_append, List.nil_append, List.append_nil, Nat.zero_add, Nat.reduceAdd, Sl.v] at h)
      | (refine t_stB h 2 rfl (by simp [setL]) (by simp [Value.oneCell']) fun w h => ?_; try dsimp only [List.set, setL, List.eraseIdx, List.cons_append, List.nil_append, List.append_nil, Nat.zero_add, Nat.reduceAdd, Sl.v] at h)
      | (refine t_stB h 3 rfl (by simp [setL]) (by simp [Value.oneCell']) fun w h => ?_; try dsimp only [List.set, setL, List.eraseIdx, List.cons_append, List.nil_append, List.append_nil, Nat.zero_add, Nat.reduceAdd, Sl.v] at h)
      | (refine t_stB h 4 rfl (by simp [setL]) (by simp [Value.oneCell']) fun w h => ?_; try dsimp only [List.set, setL, List.eraseIdx, List.cons_append, List.nil_append, List.append_nil, Nat.zero_add, Nat.reduceAdd, Sl.v] at h)
      | (refine t_stB h 5 rfl (by simp [setL]) (by simp [Value.oneCell']) fun w h => ?_; try dsimp only [List.set, setL, List.eraseIdx, List.cons_append, List.nil_append, List.append_nil, Nat.zero_add, Nat.reduceAdd, Sl.v] at h)
      | (refine t_stB h 6 rfl (by simp [setL]) (by simp [Value.oneCell']) fun w h => ?_; try dsimp only [List.set, setL, List.eraseIdx, List.cons_append, List.nil_append, List.append_nil, Nat.zero_add, Nat.reduceAdd, Sl.v] at h)
      | (refine t_stB h 7 rfl (by simp [setL]) (by simp [Value.oneCell']) fun w h => ?_; try dsimp only [List.set, setL, List.eraseIdx, List.cons_append, List.nil_append, List.append_nil, Nat.zero_add, Nat.reduceAdd, Sl.v] at h)
      | (refine t_stB h 8 rfl (by simp [setL]) (by simp [Value.oneCell']) fun w h => ?_; try dsimp only [List.set, setL, List.eraseIdx, List.cons_append, List.nil_append, List.append_nil, Nat.zero_add, Nat.reduceAdd, Sl.v] at h)
      | (refine t_stB h 9 rfl (by simp [setL]) (by simp [Value.oneCell']) fun w h => ?_; try dsimp only [List.set, setL, List.eraseIdx, List.cons_append, List.nil_append, List.append_nil, Nat.zero_add, Nat.reduceAdd, Sl.v] at h)
      | refine t_newB h (by simp [Value.oneCell']) fun w b h hb => ?_
      | refine t_nil ?_
      | refine t_true rfl ?_
      | refine t_false rfl ?_
      | refine t_yes rfl ?_
      | refine t_nyes rfl ?_
      | refine t_no (by decide) ?_
      | refine t_nno (by decide) ?_
      | refine t_need (by decide) ?_)
    try dsimp only [List.set, setL, List.eraseIdx, List.cons_append, List.nil_append, List.append_nil, Nat.zero_add, Nat.reduceAdd, Sl.v] at h
    first | refine t_fn (drvq_Back_fn) h (by repeat (first | exact Sub.nil _ | apply Sub.c0 | apply Sub.c1 | apply Sub.c2 | apply Sub.c3 | apply Sub.c4 | apply Sub.c5 | apply Sub.c6 | apply Sub.c7 | apply Sub.c8 | apply Sub.c9 | apply Sub.c10 | apply Sub.c11 | exact Sub.refl _)) noRo fun w h => ?_ | refine t_fnn (drvq_Back_fn) h (by repeat (first | exact Sub.nil _ | apply Sub.c0 | apply Sub.c1 | apply Sub.c2 | apply Sub.c3 | apply Sub.c4 | apply Sub.c5 | apply Sub.c6 | apply Sub.c7 | apply Sub.c8 | apply Sub.c9 | apply Sub.c10 | apply Sub.c11 | exact Sub.refl _)) noRo fun w h => ?_
    try dsimp only [List.set, setL, List.eraseIdx, List.cons_append, List.nil_append, List.append_nil, Nat.zero_add, Nat.reduceAdd, Sl.v] at h
    rw [hq2.back]
    refine t_neS (l := [.I, .bool]) (0, true, ()) (0, true, ()) flatSpot (t_false rfl ?_)
    rw [w64 (n := (i : Int) + 1) (by omega)]
    refine t_next (hJ (x1.n - (i + 1)) (((i + 1 : Nat) : Int), ()) w (by omega) ⟨i + 1, q2, l2, by omega, rfl, rfl, hq2, h.weak (by repeat (first | exact Weak.refl _ | apply Weak.c0 | apply Weak.c1 | apply Weak.c2 | apply Weak.c3 | apply Weak.c4 | apply Weak.c5 | apply Weak.c6 | apply Weak.c7 | apply Weak.c8 | apply Weak.c9 | apply Weak.c10 | apply Weak.c11 | apply Weak.drop))⟩)
  · clear h0 h
    rintro _ w ⟨q, l, hq, h⟩
    first | refine t_fnE (gmem_Clone_con) h (by repeat (first | exact Sub.nil _ | apply Sub.c0 | apply Sub.c1 | apply Sub.c2 | apply Sub.c3 | apply Sub.c4 | apply Sub.c5 | apply Sub.c6 | apply Sub.c7 | apply Sub.c8 | apply Sub.c9 | apply Sub.c10 | apply Sub.c11 | exact Sub.refl _)) noRo ?_ | refine t_fnnE (gmem_Clone_con) h (by repeat (first | exact Sub.nil _ | apply Sub.c0 | apply Sub.c1 | apply Sub.c2 | apply Sub.c3 | apply Sub.c4 | apply Sub.c5 | apply Sub.c6 | apply Sub.c7 | apply Sub.c8 | apply Sub.c9 | apply Sub.c10 | apply Sub.c11 | exact Sub.refl _)) noRo ?_
    rintro _ post ⟨cb, rfl, rfl⟩ w h
    try dsimp only [List.set, setL, List.eraseIdx, List.cons_append, List.nil_append, List.append_nil, Nat.zero_add, Nat.reduceAdd, Sl.v] at h
    repeat (first
      | refine t_tickS h fun w h => ?_
      | refine t_keepN ?_
      | refine t_ldB h 0 rfl rfl ?_
      | refine t_ldB h 1 rfl rfl ?_
      | refine t_ldB h 2 rfl rfl ?_
      | refine t_ldB h 3 rfl rfl ?_
      | refine t_ldB h 4 rfl rfl ?_
      | refine t_ldB h 5 rfl rfl ?_
      | refine t_ldB h 6 rfl rfl ?_
      | refine t_ldB h 7 rfl rfl ?_
      | refine t_ldB h 8 rfl rfl ?_
      | refine t_ldB h 9 rfl rfl ?_
      | refine t_ldO h 0 rfl rfl rfl ?_
      | refine t_ldO h 1 rfl rfl rfl ?_
      | refine t_ldO h 2 rfl rfl rfl ?_
      | refine t_ldO h 3 rfl rfl rfl ?_
      | refine t_ldO h 4 rfl rfl rfl ?_
      | refine t_ldO h 5 rfl rfl rfl ?_
      | refine t_ldO h 6 rfl rfl rfl ?_
      | refine t_ldO h 7 rfl rfl rfl ?_
      | refine t_ldO h 8 rfl rfl rfl ?_
      | refine t_ldO h 9 rfl rfl rfl ?_
      | refine t_keepB h 0 rfl rfl ?_
      | refine t_keepB h 1 rfl rfl ?_
      | refine t_keepB h 2 rfl rfl ?_
      | refine t_keepB h 3 rfl rfl ?_
      | refine t_keepB h 4 rfl rfl ?_
      | refine t_keepB h 5 rfl rfl ?_
      | refine t_keepB h 6 rfl rfl ?_
      | refine t_keepB h 7 rfl rfl ?_
      | refine t_keepB h 8 rfl rfl ?_
      | refine t_keepB h 9 rfl rfl ?_
      | (refine t_stB h 0 rfl (by simp [setL]) (by simp [Value.oneCell']) fun w h => ?_; try dsimp only [List.set, setL, List.eraseIdx, List.cons_append, List.nil_append, List.append_nil, Nat.zero_add, Nat.reduceAdd, Sl.v] at h)
      | (refine t_stB h 1 rfl (by simp [setL]) (by simp [Value.oneCell']) fun w h => ?_; try dsimp only [List.set, setL, List.eraseIdx, List.cons_append, List.nil_append, List.append_nil, Nat.zero_add, Nat.reduceAdd, Sl.v] at h)
      | (refine t_stB h 2 rfl (by simp [setL]) (by simp [Value.oneCell']) fun w h => ?_; try dsimp only [List.set, setL, List.eraseIdx, List.cons_append, List.nil_append, List.append_nil, Nat.zero_add, Nat.reduceAdd, Sl.v] at h)
      | (refine t_stB h 3 rfl (by simp [setL]) (by simp [Value.oneCell']) fun w h => ?_; try dsimp only [List.set, setL, List.eraseIdx, List.cons_append, List.nil_append, List.append_nil, Nat.zero_add, Nat.reduceAdd, Sl.v] at h)
      | (refine t_stB h 4 rfl (by simp [setL]) (by simp [Value.oneCell']) fun w h => ?_; try dsimp only [List.set, setL, List.eraseIdx, List.cons_append, List.nil_append, List.append_nil, Nat.zero_add, Nat.reduceAdd, Sl.v] at h)
      | (refine t_stB h 5 rfl (by simp [setL]) (by simp [Value.oneCell']) fun w h => ?_; try dsimp only [List.set, setL, List.eraseIdx, List.cons_append, List.nil_append, List.append_nil, Nat.zero_add, Nat.reduceAdd, Sl.v] at h)
      | (refine t_stB h 6 rfl (by simp [setL]) (by simp [Value.oneCell']) fun w h => ?_; try dsimp only [List.set, setL, List.eraseIdx, List.cons_append, List.nil_append, List.append_nil, Nat.zero_add, Nat.reduceAdd, Sl.v] at h)
      | (refine t_stB h 7 rfl (by simp [setL]) (by simp [Value.oneCell']) fun w h => ?_; try dsimp only [List.set, setL, List.eraseIdx, List.cons_append, List.nil_append, List.append_nil, Nat.zero_add, Nat.reduceAdd, Sl.v] at h)
      | (refine t_stB h 8 rfl (by simp [setL]) (by simp [Value.oneCell']) fun w h => ?_; try dsimp only [List.set, setL, List.eraseIdx, List.cons_append, List.nil_append, List.append_nil, Nat.zero_add, Nat.reduceAdd, Sl.v] at h)
      | (refine t_stB h 9 rfl (by simp [setL]) (by simp [Value.oneCell']) fun w h => ?_; try dsimp only [List.set, setL, List.eraseIdx, List.cons_append, List.nil_append, List.append_nil, Nat.zero_add, Nat.reduceAdd, Sl.v] at h)
      | refine t_newB h (by simp [Value.oneCell']) fun w b h hb => ?_
      | refine t_nil ?_
      | refine t_true rfl ?_
      | refine t_false rfl ?_
      | refine t_yes rfl ?_
      | refine t_nyes rfl ?_
      | refine t_no (by decide) ?_
      | refine t_nno (by decide) ?_
      | refine t_need (by decide) ?_)
    try dsimp only [List.set, setL, List.eraseIdx, List.cons_append, List.nil_append, List.append_nil, Nat.zero_add, Nat.reduceAdd, Sl.v] at h
    first | refine t_fnE (drvq_Clone_con) h (by repeat (first | exact Sub.nil _ | apply Sub.c0 | apply Sub.c1 | apply Sub.c2 | apply Sub.c3 | apply Sub.c4 | apply Sub.c5 | apply Sub.c6 | apply Sub.c7 | apply Sub.c8 | apply Sub.c9 | apply Sub.c10 | apply Sub.c11 | exact Sub.refl _)) noRo ?_ | refine t_fnnE (drvq_Clone_con) h (by repeat (first | exact Sub.nil _ | apply Sub.c0 | apply Sub.c1 | apply Sub.c2 | apply Sub.c3 | apply Sub.c4 | apply Sub.c5 | apply Sub.c6 | apply Sub.c7 | apply Sub.c8 | apply Sub.c9 | apply Sub.c10 | apply Sub.c11 | exact Sub.refl _)) noRo ?_
    rintro _ post ⟨xb, rfl, rfl⟩ w h
    try dsimp only [List.set, setL, List.eraseIdx, List.cons_append, List.nil_append, List.append_nil, Nat.zero_add, Nat.reduceAdd, Sl.v] at h
    repeat (first
      | refine t_tickS h fun w h => ?_
      | refine t_keepN ?_
      | refine t_ldB h 0 rfl rfl ?_
      | refine t_ldB h 1 rfl rfl ?_
      | refine t_ldB h 2 rfl rfl ?_
      | refine t_ldB h 3 rfl rfl ?_
      | refine t_ldB h 4 rfl rfl ?_
      | refine t_ldB h 5 rfl rfl ?_
      | refine t_ldB h 6 rfl rfl ?_
      | refine t_ldB h 7 rfl rfl ?_
      | refine t_ldB h 8 rfl rfl ?_
      | refine t_ldB h 9 rfl rfl ?_
      | refine t_ldO h 0 rfl rfl rfl ?_
      | refine t_ldO h 1 rfl rfl rfl ?_
      | refine t_ldO h 2 rfl rfl rfl ?_
      | refine t_ldO h 3 rfl rfl rfl ?_
      | refine t_ldO h 4 rfl rfl rfl ?_
      | refine t_ldO h 5 rfl rfl rfl ?_
      | refine t_ldO h 6 rfl rfl rfl ?_
      | refine t_ldO h 7 rfl rfl rfl ?_
      | refine t_ldO h 8 rfl rfl rfl ?_
      | refine t_ldO h 9 rfl rfl rfl ?_
      | refine t_keepB h 0 rfl rfl ?_
      | refine t_keepB h 1 rfl rfl ?_
      | refine t_keepB h 2 rfl rfl ?_
      | refine t_keepB h 3 rfl rfl ?_
      | refine t_keepB h 4 rfl rfl ?_
      | refine t_keepB h 5 rfl rfl ?_
      | refine t_keepB h 6 rfl rfl ?_
      | refine t_keepB h 7 rfl rfl ?_
      | refine t_keepB h 8 rfl rfl ?_
      | refine t_keepB h 9 rfl rfl ?_
      | (refine t_stB h 0 rfl (by simp [setL]) (by simp [Value.oneCell']) fun w h => ?_; try dsimp only [List.set, setL, List.eraseIdx, List.cons_append, List.nil_append, List.append_nil, Nat.zero_add, Nat.reduceAdd, Sl.v] at h)
      | (refine t_stB h 1 rfl (by simp [setL]) (by simp [Value.oneCell']) fun w h => ?_; try dsimp only [List.set, setL, List.eraseIdx, List.cons_append, List.nil_append, List.append_nil, Nat.zero_add, Nat.reduceAdd, Sl.v] at h)
      | (refine t_stB h 2 rfl (by simp [setL]) (by simp [Value.oneCell']) fun w h => ?_; try dsimp only [List.set, setL, List.eraseIdx, List.cons_append, List.nil_append, List.append_nil, Nat.zero_add, Nat.reduceAdd, Sl.v] at h)
      | (refine t_stB h 3 rfl (by simp [setL]) (by simp [Value.oneCell']) fun w h => ?_; try dsimp only [List.set, setL, List.eraseIdx, List.cons_append, List.nil_append, List.append_nil, Nat.zero_add, Nat.reduceAdd, Sl.v] at h)
      | (refine t_stB h 4 rfl (by simp [setL]) (by simp [Value.oneCell']) fun w h => ?_; try dsimp only [List.set, setL, List.eraseIdx, List.cons_append, List.nil_append, List.append_nil, Nat.zero_add, Nat.reduceAdd, Sl.v] at h)
      | (refine t_stB h 5 rfl (by simp [setL]) (by simp [Value.oneCell']) fun w h => ?_; try dsimp only [List.set, setL, List.eraseIdx, List.cons_append, List.nil_append, List.append_nil, Nat.zero_add, Nat.reduceAdd, Sl.v] at h)
      | (refine t_stB h 6 rfl (by simp [setL]) (by simp [Value.oneCell']) fun w h => ?_; try dsimp only [List.set, setL, List.eraseIdx, List.cons_append, List.nil_append, List.append_nil, Nat.zero_add, Nat.reduceAdd, Sl.v] at h)
      | (refine t_stB h 7 rfl (by simp [setL]) (by simp [Value.oneCell']) fun w h => ?_; try dsimp only [List.set, setL, List.eraseIdx, List.cons_append, List.nil_append, List.append_nil, Nat.zero_add, Nat.reduceAdd, Sl.v] at h)
      | (refine t_stB h 8 rfl (by simp [setL]) (by simp [Value.oneCell']) fun w h => ?_; try dsimp only [List.set, setL, List.eraseIdx, List.cons_append, List.nil_append, List.append_nil, Nat.zero_add, Nat.reduceAdd, Sl.v] at h)
      | (refine t_stB h 9 rfl (by simp [setL]) (by simp [Value.oneCell']) fun w h => ?_; try dsimp only [List.set, setL, List.eraseIdx, List.cons_append, List.nil_append, List.append_nil, Nat.zero_add, Nat.reduceAdd, Sl.v] at h)
      | refine t_newB h (by simp [Value.oneCell']) fun w b h hb => ?_
      | refine t_nil ?_
      | refine t_true rfl ?_
      | refine t_false rfl ?_
      | refine t_yes rfl ?_
      | refine t_nyes rfl ?_
      | refine t_no (by decide) ?_
      | refine t_nno (by decide) ?_
      | refine t_need (by decide) ?_)
    try dsimp only [List.set, setL, List.eraseIdx, List.cons_append, List.nil_append, List.append_nil, Nat.zero_add, Nat.reduceAdd, Sl.v] at h
    first | refine t_fn (drvq_Free_fn (b := xb)) h (by repeat (first | exact Sub.nil _ | apply Sub.c0 | apply Sub.c1 | apply Sub.c2 | apply Sub.c3 | apply Sub.c4 | apply Sub.c5 | apply Sub.c6 | apply Sub.c7 | apply Sub.c8 | apply Sub.c9 | apply Sub.c10 | apply Sub.c11 | exact Sub.refl _)) noRo fun w h => ?_ | refine t_fnn (drvq_Free_fn (b := xb)) h (by repeat (first | exact Sub.nil _ | apply Sub.c0 | apply Sub.c1 | apply Sub.c2 | apply Sub.c3 | apply Sub.c4 | apply Sub.c5 | apply Sub.c6 | apply Sub.c7 | apply Sub.c8 | apply Sub.c9 | apply Sub.c10 | apply Sub.c11 | exact Sub.refl _)) noRo fun w h => ?_
    try dsimp only [List.set, setL, List.eraseIdx, List.cons_append, List.nil_append, List.append_nil, Nat.zero_add, Nat.reduceAdd, Sl.v] at h
    first | refine t_fn (drvq_Free_fn (b := qb)) h (by repeat (first | exact Sub.nil _ | apply Sub.c0 | apply Sub.c1 | apply Sub.c2 | apply Sub.c3 | apply Sub.c4 | apply Sub.c5 | apply Sub.c6 | apply Sub.c7 | apply Sub.c8 | apply Sub.c9 | apply Sub.c10 | apply Sub.c11 | exact Sub.refl _)) noRo fun w h => ?_ | refine t_fnn (drvq_Free_fn (b := qb)) h (by repeat (first | exact Sub.nil _ | apply Sub.c0 | apply Sub.c1 | apply Sub.c2 | apply Sub.c3 | apply Sub.c4 | apply Sub.c5 | apply Sub.c6 | apply Sub.c7 | apply Sub.c8 | apply Sub.c9 | apply Sub.c10 | apply Sub.c11 | exact Sub.refl _)) noRo fun w h => ?_
    try dsimp only [List.set, setL, List.eraseIdx, List.cons_append, List.nil_append, List.append_nil, Nat.zero_add, Nat.reduceAdd, Sl.v] at h
    refine t_yes rfl ?_
    first | refine t_fnE (drvqNew_con (mb := cb) (l := l) (by rw [hq.len]; omega) (by rw [hq.len]; decide)) h (by repeat (first | exact Sub.nil _ | apply Sub.c0 | apply Sub.c1 | apply Sub.c2 | apply Sub.c3 | apply Sub.c4 | apply Sub.c5 | apply Sub.c6 | apply Sub.c7 | apply Sub.c8 | apply Sub.c9 | apply Sub.c10 | apply Sub.c11 | exact Sub.refl _)) noRo ?_ | refine t_fnnE (drvqNew_con (mb := cb) (l := l) (by rw [hq.len]; omega) (by rw [hq.len]; decide)) h (by repeat (first | exact Sub.nil _ | apply Sub.c0 | apply Sub.c1 | apply Sub.c2 | apply Sub.c3 | apply Sub.c4 | apply Sub.c5 | apply Sub.c6 | apply Sub.c7 | apply Sub.c8 | apply Sub.c9 | apply Sub.c10 | apply Sub.c11 | exact Sub.refl _)) noRo ?_
    rintro _ _ ⟨rfl, rfl⟩ w h
    try dsimp only [List.set, setL, List.eraseIdx, List.cons_append, List.nil_append, List.append_nil, Nat.zero_add, Nat.reduceAdd, Sl.v] at h
    repeat (first
      | refine t_tickS h fun w h => ?_
      | refine t_keepN ?_
      | refine t_ldB h 0 rfl rfl ?_
      | refine t_ldB h 1 rfl rfl ?_
      | refine t_ldB h 2 rfl rfl ?_
      | refine t_ldB h 3 rfl rfl ?_
      | refine t_ldB h 4 rfl rfl ?_
      | refine t_ldB h 5 rfl rfl ?_
      | refine t_ldB h 6 rfl rfl ?_
      | refine t_ldB h 7 rfl rfl ?_
      | refine t_ldB h 8 rfl rfl ?_
      | refine t_ldB h 9 rfl rfl ?_
      | refine t_ldO h 0 rfl rfl rfl ?_
      | refine t_ldO h 1 rfl rfl rfl ?_
      | refine t_ldO h 2 rfl rfl rfl ?_
      | refine t_ldO h 3 rfl rfl rfl ?_
      | refine t_ldO h 4 rfl rfl rfl ?_
      | refine t_ldO h 5 rfl rfl rfl ?_
      | refine t_ldO h 6 rfl rfl rfl ?_
      | refine t_ldO h 7 rfl rfl rfl ?_
      | refine t_ldO h 8 rfl rfl rfl ?_
      | refine t_ldO h 9 rfl rfl rfl ?_
      | refine t_keepB h 0 rfl rfl ?_
      | refine t_keepB h 1 rfl rfl ?_
      | refine t_keepB h 2 rfl rfl ?_
      | refine t_keepB h 3 rfl rfl ?_
      | refine t_keepB h 4 rfl rfl ?_
      | refine t_keepB h 5 rfl rfl ?_
      | refine t_keepB h 6 rfl rfl ?_
      | refine t_keepB h 7 rfl rfl ?_
      | refine t_keepB h 8 rfl rfl ?_
      | refine t_keepB h 9 rfl rfl ?_
      | (refine t_stB h 0 rfl (by simp [setL]) (by simp [Value.oneCell']) fun w h => ?_; try dsimp only [List.set, setL, List.eraseIdx, List.cons_append, List.nil_append, List.append_nil, Nat.zero_add, Nat.reduceAdd, Sl.v] at h)
      | (refine t_stB h 1 rfl (by simp [setL]) (by simp [Value.oneCell']) fun w h => ?_; try dsimp only [List.set, setL, List.eraseIdx, List.cons_append, List.nil_append, List.append_nil, Nat.zero_add, Nat.reduceAdd, Sl.v] at h)
      | (refine t_stB h 2 rfl (by simp [setL]) (by simp [Value.oneCell']) fun w h => ?_; try dsimp only [List.set, setL, List.eraseIdx, List.cons_append, List.nil_append, List.append_nil, Nat.zero_add, Nat.reduceAdd, Sl.v] at h)
      | (refine t_stB h 3 rfl (by simp [setL]) (by simp [Value.oneCell']) fun w h => ?_; try dsimp only [List.set, setL, List.eraseIdx, List.cons_append, List.nil_append, List.append_nil, Nat.zero_add, Nat.reduceAdd, Sl.v] at h)
      | (refine t_stB h 4 rfl (by simp [setL]) (by simp [Value.oneCell']) fun w h => ?_; try dsimp only [List.set, setL, List.eraseIdx, List.cons_append, List.nil_append, List.append_nil, Nat.zero_add, Nat.reduceAdd, Sl.v] at h)
      | (refine t_stB h 5 rfl (by simp [setL]) (by simp [Value.oneCell']) fun w h => ?_; try dsimp only [List.set, setL, List.eraseIdx, List.cons_append, List.nil_append, List.append_nil, Nat.zero_add, Nat.reduceAdd, Sl.v] at h)
      | (refine t_stB h 6 rfl (by simp [setL]) (by simp [Value.oneCell']) fun w h => ?_; try dsimp only [List.set, setL, List.eraseIdx, List.cons_append, List.nil_append, List.append_nil, Nat.zero_add, Nat.reduceAdd, Sl.v] at h)
      | (refine t_stB h 7 rfl (by simp [setL]) (by simp [Value.oneCell']) fun w h => ?_; try dsimp only [List.set, setL, List.eraseIdx, List.cons_append, List.nil_append, List.append_nil, Nat.zero_add, Nat.reduceAdd, Sl.v] at h)
      | (refine t_stB h 8 rfl (by simp [setL]) (by simp [Value.oneCell']) fun w h => ?_; try dsimp only [List.set, setL, List.eraseIdx, List.cons_append, List.nil_append, List.append_nil, Nat.zero_add, Nat.reduceAdd, Sl.v] at h)
      | (refine t_stB h 9 rfl (by simp [setL]) (by simp [Value.oneCell']) fun w h => ?_; try dsimp only [List.set, setL, List.eraseIdx, List.cons_append, List.nil_append, List.append_nil, Nat.zero_add, Nat.reduceAdd, Sl.v] at h)
      | refine t_newB h (by simp [Value.oneCell']) fun w b h hb => ?_
      | refine t_nil ?_
      | refine t_true rfl ?_
      | refine t_false rfl ?_
      | refine t_yes rfl ?_
      | refine t_nyes rfl ?_
      | refine t_no (by decide) ?_
      | refine t_nno (by decide) ?_
      | refine t_need (by decide) ?_)
    try dsimp only [List.set, setL, List.eraseIdx, List.cons_append, List.nil_append, List.append_nil, Nat.zero_add, Nat.reduceAdd, Sl.v] at h
    first | refine t_fn (fixed15) h (by repeat (first | exact Sub.nil _ | apply Sub.c0 | apply Sub.c1 | apply Sub.c2 | apply Sub.c3 | apply Sub.c4 | apply Sub.c5 | apply Sub.c6 | apply Sub.c7 | apply Sub.c8 | apply Sub.c9 | apply Sub.c10 | apply Sub.c11 | exact Sub.refl _)) noRo fun w h => ?_ | refine t_fnn (fixed15) h (by repeat (first | exact Sub.nil _ | apply Sub.c0 | apply Sub.c1 | apply Sub.c2 | apply Sub.c3 | apply Sub.c4 | apply Sub.c5 | apply Sub.c6 | apply Sub.c7 | apply Sub.c8 | apply Sub.c9 | apply Sub.c10 | apply Sub.c11 | exact Sub.refl _)) noRo fun w h => ?_
    try dsimp only [List.set, setL, List.eraseIdx, List.cons_append, List.nil_append, List.append_nil, Nat.zero_add, Nat.reduceAdd, Sl.v] at h
    exact t_ret ⟨rfl, h.weak (by repeat (first | exact Weak.refl _ | apply Weak.c0 | apply Weak.c1 | apply Weak.c2 | apply Weak.c3 | apply Weak.c4 | apply Weak.c5 | apply Weak.c6 | apply Weak.c7 | apply Weak.c8 | apply Weak.c9 | apply Weak.c10 | apply Weak.c11 | apply Weak.drop))⟩
end Go.Proofs.Ythfcneahnldgnaa
