/- The drvq statements' helper: same. -/
import Derived.Test.YthfcneahnldgnaaGreatKeepP15
import Derived.Test.YthfcneahnldgnaaGreatOps15
namespace Go.Proofs.YthfcneahnldgnaaGreat
open Go Vk
set_option linter.unusedSimpArgs false
set_option linter.unusedVariables false
theorem t_keepK {P : Program} {R : Ending → World → Prop} {Ks : Conts} {w0 w : World} {W : List Nat} {Rs : List Res} {xb kb : Nat} {q : M.KQ} {l : List (Addr × List Value)} {c : Tr} (h : St w0 W w Rs) (i : Nat) (hi : Rs[i]? = some (kqR xb kb q)) (hc : (Tr.keep l c).wp P R Ks w) : (Tr.keep ((⟨xb, 0, none⟩, [.pointer (some ⟨kb, 0, none⟩)]) :: l) c).wp P R Ks w := by
  obtain ⟨s, h'⟩ := kq_open (h.pick i hi)
  exact t_keepB h' 0 rfl rfl hc
theorem t_keepK7 {P : Program} {R : Ending → World → Prop} {Ks : Conts} {w0 w : World} {W : List Nat} {Rs : List Res} {xb kb : Nat} {q : M.KQ} {l : List (Addr × List Value)} {c : Tr} (h : St w0 W w Rs) (i : Nat) (hi : Rs[i]? = some (kqR xb kb q)) (hc : (Tr.keep l c).wp P R Ks w) : (Tr.keep ((⟨xb, 7, none⟩, [.int .i64 q.bk.at_, .bool q.bk.wrap]) :: l) c).wp P R Ks w := by
  obtain ⟨s, h'⟩ := kq_open (h.pick i hi)
  exact t_keepB h' 0 rfl rfl hc
theorem same_con {mb qb xb kb : Nat} {l : List UInt8} {q : M.DQ} {since : Int} (hq : q.Inv) : Con Tryz.prog NoRo 20 #[.pointer (some ⟨mb, 0, none⟩), .pointer (some ⟨qb, 0, none⟩), .pointer (some ⟨xb, 0, none⟩)] .B [memR mb l, dqR qb mb q, kqR xb kb (M.kOf q since), memK kb l] true [memR mb l, dqR qb mb q, kqR xb kb (M.kOf q since), memK kb l] := by
  intro w0 W w B _ h
  refine aqueductlaw15_same.calls ⟨mb, 0, none⟩ ⟨qb, 0, none⟩ ⟨xb, 0, none⟩ ?_
  unfold aqueductlaw15_same.T
  have hk64 := Inv_i64 hq
  have hklen : q.held.length ≤ 1048576 := by have := hq.ok.len; omega
  refine t_tickS h fun w h => ?_
  replace h : St w0 W w (kqR xb kb (M.kOf q since) :: memR mb l :: dqR qb mb q :: memK kb l :: B) := h.perm (by repeat (first | exact Sub.nil _ | apply Sub.c0 | apply Sub.c1 | apply Sub.c2 | apply Sub.c3 | apply Sub.c4 | apply Sub.c5 | apply Sub.c6 | apply Sub.c7 | apply Sub.c8 | apply Sub.c9 | apply Sub.c10 | apply Sub.c11 | exact Sub.refl _))
  obtain ⟨s, h⟩ := kq_open h
  refine t_ldB (x := some ⟨kb, 0, none⟩) h 0 rfl rfl (t_nil ?_)
  replace h := kq_shut (M.kOf q since) h (by repeat (first | exact Sub.nil _ | apply Sub.c0 | apply Sub.c1 | apply Sub.c2 | apply Sub.c3 | apply Sub.c4 | apply Sub.c5 | apply Sub.c6 | apply Sub.c7 | apply Sub.c8 | apply Sub.c9 | apply Sub.c10 | apply Sub.c11 | exact Sub.refl _))
  replace h : St w0 W w (memK kb l :: memR mb l :: dqR qb mb q :: kqR xb kb (M.kOf q since) :: B) := h.perm (by repeat (first | exact Sub.nil _ | apply Sub.c0 | apply Sub.c1 | apply Sub.c2 | apply Sub.c3 | apply Sub.c4 | apply Sub.c5 | apply Sub.c6 | apply Sub.c7 | apply Sub.c8 | apply Sub.c9 | apply Sub.c10 | apply Sub.c11 | exact Sub.refl _))
  obtain ⟨ag, lg, cs, hl1, hl3, hl4, h⟩ := memK_open h
  refine t_ldB (x := mkB l) h 0 rfl rfl ?_
  first | refine t_fn (gmem_Image_fn) h (by repeat (first | exact Sub.nil _ | apply Sub.c0 | apply Sub.c1 | apply Sub.c2 | apply Sub.c3 | apply Sub.c4 | apply Sub.c5 | apply Sub.c6 | apply Sub.c7 | apply Sub.c8 | apply Sub.c9 | apply Sub.c10 | apply Sub.c11 | exact Sub.refl _)) noRo fun w h => ?_ | refine t_fnn (gmem_Image_fn) h (by repeat (first | exact Sub.nil _ | apply Sub.c0 | apply Sub.c1 | apply Sub.c2 | apply Sub.c3 | apply Sub.c4 | apply Sub.c5 | apply Sub.c6 | apply Sub.c7 | apply Sub.c8 | apply Sub.c9 | apply Sub.c10 | apply Sub.c11 | exact Sub.refl _)) noRo fun w h => ?_
  try dsimp only [List.set, setL, List.eraseIdx, List.cons_append, List.nil_append, List.append_nil, Nat.zero_add, Nat.reduceAdd, Sl.v] at h
  refine t_keepB h 1 rfl rfl (t_keepK h 4 rfl (t_keepN ?_))
  refine t_yes rfl ?_
  replace h := memK_shut (l := l) (lg := lg) hl1 hl3 hl4 h (by repeat (first | exact Sub.nil _ | apply Sub.c0 | apply Sub.c1 | apply Sub.c2 | apply Sub.c3 | apply Sub.c4 | apply Sub.c5 | apply Sub.c6 | apply Sub.c7 | apply Sub.c8 | apply Sub.c9 | apply Sub.c10 | apply Sub.c11 | exact Sub.refl _))
  first | refine t_fn (drvq_Free_fn) h (by repeat (first | exact Sub.nil _ | apply Sub.c0 | apply Sub.c1 | apply Sub.c2 | apply Sub.c3 | apply Sub.c4 | apply Sub.c5 | apply Sub.c6 | apply Sub.c7 | apply Sub.c8 | apply Sub.c9 | apply Sub.c10 | apply Sub.c11 | exact Sub.refl _)) noRo fun w h => ?_ | refine t_fnn (drvq_Free_fn) h (by repeat (first | exact Sub.nil _ | apply Sub.c0 | apply Sub.c1 | apply Sub.c2 | apply Sub.c3 | apply Sub.c4 | apply Sub.c5 | apply Sub.c6 | apply Sub.c7 | apply Sub.c8 | apply Sub.c9 | apply Sub.c10 | apply Sub.c11 | exact Sub.refl _)) noRo fun w h => ?_
  try dsimp only [List.set, setL, List.eraseIdx, List.cons_append, List.nil_append, List.append_nil, Nat.zero_add, Nat.reduceAdd, Sl.v] at h
  refine t_keepK h 3 rfl (t_keepN ?_)
  first | refine t_fn (R15_Free_con (since := since) hq) h (by repeat (first | exact Sub.nil _ | apply Sub.c0 | apply Sub.c1 | apply Sub.c2 | apply Sub.c3 | apply Sub.c4 | apply Sub.c5 | apply Sub.c6 | apply Sub.c7 | apply Sub.c8 | apply Sub.c9 | apply Sub.c10 | apply Sub.c11 | exact Sub.refl _)) noRo fun w h => ?_ | refine t_fnn (R15_Free_con (since := since) hq) h (by repeat (first | exact Sub.nil _ | apply Sub.c0 | apply Sub.c1 | apply Sub.c2 | apply Sub.c3 | apply Sub.c4 | apply Sub.c5 | apply Sub.c6 | apply Sub.c7 | apply Sub.c8 | apply Sub.c9 | apply Sub.c10 | apply Sub.c11 | exact Sub.refl _)) noRo fun w h => ?_
  try dsimp only [List.set, setL, List.eraseIdx, List.cons_append, List.nil_append, List.append_nil, Nat.zero_add, Nat.reduceAdd, Sl.v] at h
  refine t_keepK h 0 rfl (t_keepN ?_)
  refine t_yes rfl ?_
  first | refine t_fnE (drvq_Held_fn hk64 hklen) h (by repeat (first | exact Sub.nil _ | apply Sub.c0 | apply Sub.c1 | apply Sub.c2 | apply Sub.c3 | apply Sub.c4 | apply Sub.c5 | apply Sub.c6 | apply Sub.c7 | apply Sub.c8 | apply Sub.c9 | apply Sub.c10 | apply Sub.c11 | exact Sub.refl _)) noRo ?_ | refine t_fnnE (drvq_Held_fn hk64 hklen) h (by repeat (first | exact Sub.nil _ | apply Sub.c0 | apply Sub.c1 | apply Sub.c2 | apply Sub.c3 | apply Sub.c4 | apply Sub.c5 | apply Sub.c6 | apply Sub.c7 | apply Sub.c8 | apply Sub.c9 | apply Sub.c10 | apply Sub.c11 | exact Sub.refl _)) noRo ?_
  rintro s1 post ⟨hn1, rfl⟩ w h
  try dsimp only [List.set, setL, List.eraseIdx, List.cons_append, List.nil_append, List.append_nil, Nat.zero_add, Nat.reduceAdd, Sl.v] at h
  refine t_keepK h 2 rfl (t_keepN ?_)
  first | refine t_fnE (R15_Held_con (since := since) hq) h (by repeat (first | exact Sub.nil _ | apply Sub.c0 | apply Sub.c1 | apply Sub.c2 | apply Sub.c3 | apply Sub.c4 | apply Sub.c5 | apply Sub.c6 | apply Sub.c7 | apply Sub.c8 | apply Sub.c9 | apply Sub.c10 | apply Sub.c11 | exact Sub.refl _)) noRo ?_ | refine t_fnnE (R15_Held_con (since := since) hq) h (by repeat (first | exact Sub.nil _ | apply Sub.c0 | apply Sub.c1 | apply Sub.c2 | apply Sub.c3 | apply Sub.c4 | apply Sub.c5 | apply Sub.c6 | apply Sub.c7 | apply Sub.c8 | apply Sub.c9 | apply Sub.c10 | apply Sub.c11 | exact Sub.refl _)) noRo ?_
  rintro s2 post ⟨hn2, rfl⟩ w h
  try dsimp only [List.set, setL, List.eraseIdx, List.cons_append, List.nil_append, List.append_nil, Nat.zero_add, Nat.reduceAdd, Sl.v] at h
  refine t_keepK h 1 rfl (t_keepN ?_)
  first | refine t_fn (Same_own _ _ (by rw [show (M.keysOf q.held).length = q.held.length by unfold M.keysOf; simp]; exact hklen)) h (by repeat (first | exact Sub.nil _ | apply Sub.c0 | apply Sub.c1 | apply Sub.c2 | apply Sub.c3 | apply Sub.c4 | apply Sub.c5 | apply Sub.c6 | apply Sub.c7 | apply Sub.c8 | apply Sub.c9 | apply Sub.c10 | apply Sub.c11 | exact Sub.refl _)) noRo fun w h => ?_ | refine t_fnn (Same_own _ _ (by rw [show (M.keysOf q.held).length = q.held.length by unfold M.keysOf; simp]; exact hklen)) h (by repeat (first | exact Sub.nil _ | apply Sub.c0 | apply Sub.c1 | apply Sub.c2 | apply Sub.c3 | apply Sub.c4 | apply Sub.c5 | apply Sub.c6 | apply Sub.c7 | apply Sub.c8 | apply Sub.c9 | apply Sub.c10 | apply Sub.c11 | exact Sub.refl _)) noRo fun w h => ?_
  try dsimp only [List.set, setL, List.eraseIdx, List.cons_append, List.nil_append, List.append_nil, Nat.zero_add, Nat.reduceAdd, Sl.v] at h
  refine t_keepK h 2 rfl (t_keepN ?_)
  refine t_true (by simp) ?_
  replace h : St w0 W w (kqR xb kb (M.kOf q since) :: dqR qb mb q :: memK kb l :: memR mb l :: B) := h.weak (by repeat (first | exact Weak.refl _ | apply Weak.c0 | apply Weak.c1 | apply Weak.c2 | apply Weak.c3 | apply Weak.c4 | apply Weak.c5 | apply Weak.c6 | apply Weak.c7 | apply Weak.c8 | apply Weak.c9 | apply Weak.c10 | apply Weak.c11 | apply Weak.drop))
  obtain ⟨s, h⟩ := kq_open h
  refine t_ldB (x := (q.back.at_, q.back.wrap, ())) h 0 rfl rfl ?_
  replace h := kq_shut (M.kOf q since) h (by repeat (first | exact Sub.nil _ | apply Sub.c0 | apply Sub.c1 | apply Sub.c2 | apply Sub.c3 | apply Sub.c4 | apply Sub.c5 | apply Sub.c6 | apply Sub.c7 | apply Sub.c8 | apply Sub.c9 | apply Sub.c10 | apply Sub.c11 | exact Sub.refl _))
  first | refine t_fn (drvq_Back_fn) h (by repeat (first | exact Sub.nil _ | apply Sub.c0 | apply Sub.c1 | apply Sub.c2 | apply Sub.c3 | apply Sub.c4 | apply Sub.c5 | apply Sub.c6 | apply Sub.c7 | apply Sub.c8 | apply Sub.c9 | apply Sub.c10 | apply Sub.c11 | exact Sub.refl _)) noRo fun w h => ?_ | refine t_fnn (drvq_Back_fn) h (by repeat (first | exact Sub.nil _ | apply Sub.c0 | apply Sub.c1 | apply Sub.c2 | apply Sub.c3 | apply Sub.c4 | apply Sub.c5 | apply Sub.c6 | apply Sub.c7 | apply Sub.c8 | apply Sub.c9 | apply Sub.c10 | apply Sub.c11 | exact Sub.refl _)) noRo fun w h => ?_
  try dsimp only [List.set, setL, List.eraseIdx, List.cons_append, List.nil_append, List.append_nil, Nat.zero_add, Nat.reduceAdd, Sl.v] at h
  refine t_keepK7 (q := M.kOf q since) h 1 rfl (t_keepK h 1 rfl (t_keepN ?_))
  refine t_eqS (l := [.I, .bool]) (q.back.at_, q.back.wrap, ()) (q.back.at_, q.back.wrap, ()) flatSpot ?_
  rw [eqSpot]
  refine t_keepK h 1 rfl (t_keepN (t_ret ⟨by simp [Rk.v, Kd.v, Sc.v], h.perm (by repeat (first | exact Sub.nil _ | apply Sub.c0 | apply Sub.c1 | apply Sub.c2 | apply Sub.c3 | apply Sub.c4 | apply Sub.c5 | apply Sub.c6 | apply Sub.c7 | apply Sub.c8 | apply Sub.c9 | apply Sub.c10 | apply Sub.c11 | exact Sub.refl _))⟩))
theorem gmem_Store_con {b : Nat} {l : List UInt8} (at_ n v : Int) (h1 : i64R at_) (h2 : 0 ≤ v) (h3 : v < 18446744073709551616) : Con Tryz.prog NoRo 19 #[.pointer (some ⟨b, 0, none⟩), .int .i64 at_, .int .i64 n, .int .u64 v] .I [memR b l] (M.store l at_ n v).2 [memR b (M.storeM l at_ n v)] := fun w0 W w B _ h => gmem_Store_spec h at_ n v h1 h2 h3
theorem kOf_new (y : M.Lay) : M.newK y = M.kOf (M.newQ y) 0 := by
  unfold M.newK M.kOf M.newQ
  dsimp only
  congr 1
  unfold M.sizesOf
  simp [M.sizeOf, List.map_const']
end Go.Proofs.YthfcneahnldgnaaGreat
