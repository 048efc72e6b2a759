/- The reference's descriptors, read. -/
import Derived.Test.YthfcneahnldgnaaGreatDrvqReap
import Derived.Test.YthfcneahnldgnaaGreatVkSpec
namespace Go.Proofs.YthfcneahnldgnaaGreat
open Go Vk
set_option linter.unusedSimpArgs false
set_option linter.unusedVariables false
theorem R1_Get_con (l : List UInt8) (a n : Nat) (hn : 1 ≤ n ∧ n ≤ 8) (ha : a + n ≤ l.length) (hl : l.length ≤ 140737488355328) : Con Tryz.prog NoRo 70 #[.string (mkB l), .int .i64 (a : Nat), .int .i64 (n : Nat), .bool false] (.tup [.U64, .I]) [] ((((M.beN ((l.drop a).take n).reverse : Nat) : Int)), 0, ()) [] := by
  intro w0 W w B _ h
  refine aqueductref01_Get.calls (mkB l) (a : Nat) (n : Nat) false ?_
  unfold aqueductref01_Get.T
  rw [mkB_size]
  refine t_no (by omega) (t_no (by omega) (t_no (by omega) ?_))
  rw [w64 (n := (l.length : Int) - n) (by omega)]
  refine t_no (by omega) ?_
  generalize ht : (l.drop a).take n = t
  have htl : t.length = n := by rw [← ht]; simp; omega
  have hget : ∀ k, k < n → t.reverse.getD k 0 = l.getD (a + n - 1 - k) 0 := by
    intro k hk
    rw [← ht]
    rw [List.getD_eq_getElem?_getD, List.getD_eq_getElem?_getD, List.getElem?_reverse (by simp; omega)]
    rw [List.getElem?_take_of_lt (by simp; omega), List.getElem?_drop]
    congr 2
    simp; omega
  refine t_loop (fun m st w' => ∃ k : Nat, k ≤ n ∧ m = n - k ∧ st = (((M.beN (t.reverse.take k) : Nat) : Int), (k : Int), ()) ∧ w' = w) n ⟨0, by omega, rfl, by simp [M.beN], rfl⟩ ?_
  rintro m st w' ⟨k, hk, rfl, rfl, hw⟩ Ks hJ _
  subst hw
  dsimp only
  refine t_if (fun c1 => ?_) (fun c1 => ?_)
  · have hlt : k < n := by omega
    have hb := beN_lt (t.reverse.take k)
    rw [List.length_take, Nat.min_eq_left (by simp; omega)] at hb
    have hb' : 256 ^ k ≤ 256 ^ 7 := Nat.pow_le_pow_right (by omega) (by omega)
    refine t_false rfl ?_
    rw [w64 (n := (a : Int) + n) (by omega), w64 (n := (a : Int) + n - 1) (by omega), w64 (n := (a : Int) + n - 1 - k) (by omega)]
    refine t_need (by omega) ?_
    have e : M.beN (t.reverse.take (k + 1)) = M.beN (t.reverse.take k) * 256 + (t.reverse.getD k 0).toNat := by
      rw [take_snoc_getD t.reverse k (by simp; omega), beN_append]; simp [M.beN]
    have hx : bt (mkB l) ((a : Int) + n - 1 - k) = ((t.reverse.getD k 0).toNat : Int) := by
      rw [bt_eq, bl_mkB, hget k hlt, show ((a : Int) + n - 1 - k).toNat = a + n - 1 - k by omega]
    have h8 := (t.reverse.getD k 0).toNat_lt
    rw [hx, u64 (n := ((t.reverse.getD k 0).toNat : Int)) (by omega), u64 (n := (M.beN (t.reverse.take k) : Int) * 256) (by omega), u64 (by omega), w64 (n := (k : Int) + 1) (by omega)]
    refine t_next (hJ (n - (k + 1)) (((M.beN (t.reverse.take (k + 1)) : Nat) : Int), ((k + 1 : Nat) : Int), ()) _ (by omega) ⟨k + 1, by omega, rfl, rfl, rfl⟩ |> fun H => ?_)
    rw [e] at H
    simpa [vT, Kd.v, Sc.v] using H
  · have hke : k = n := by omega
    subst hke
    rw [List.take_of_length_le (by simp; omega)]
    exact t_ret ⟨rfl, h⟩
theorem R12_Parse_con (l : List UInt8) (hl : l.length = 16) : Con Tryz.prog NoRo 39 #[.string (mkB l)] (.tup [.agg [.U64, .U32, .I, .I], .I]) [] (((M.descOf l).addr, (M.descOf l).len, (M.descOf l).id, (M.descOf l).flags, ()), 0, ()) [] := by
  intro w0 W w B _ h
  refine aqueductref12_Parse.calls (mkB l) ?_
  unfold aqueductref12_Parse.T
  have hd := descOf_lt l
  refine t_newB h (by simp [Value.oneCell']) fun w pb h hpb => ?_
  rw [mkB_size]
  refine t_nyes (by omega) ?_
  first | refine t_fn (R1_Get_con l 0 8 (by omega) (by omega) (by omega)) h (by repeat (first | exact Sub.nil _ | apply Sub.c0 | apply Sub.c1 | apply Sub.c2 | apply Sub.c3 | apply Sub.c4 | apply Sub.c5 | apply Sub.c6 | apply Sub.c7 | apply Sub.c8 | apply Sub.c9 | apply Sub.c10 | apply Sub.c11 | exact Sub.refl _)) noRo fun w h => ?_ | refine t_fnn (R1_Get_con l 0 8 (by omega) (by omega) (by omega)) h (by repeat (first | exact Sub.nil _ | apply Sub.c0 | apply Sub.c1 | apply Sub.c2 | apply Sub.c3 | apply Sub.c4 | apply Sub.c5 | apply Sub.c6 | apply Sub.c7 | apply Sub.c8 | apply Sub.c9 | apply Sub.c10 | apply Sub.c11 | exact Sub.refl _)) noRo fun w h => ?_
  try dsimp only [List.set, setL, List.eraseIdx, List.cons_append, List.nil_append, List.append_nil, Nat.zero_add, Nat.reduceAdd, Sl.v] at h
  first | refine t_fn (R1_Get_con l 8 4 (by omega) (by omega) (by omega)) h (by repeat (first | exact Sub.nil _ | apply Sub.c0 | apply Sub.c1 | apply Sub.c2 | apply Sub.c3 | apply Sub.c4 | apply Sub.c5 | apply Sub.c6 | apply Sub.c7 | apply Sub.c8 | apply Sub.c9 | apply Sub.c10 | apply Sub.c11 | exact Sub.refl _)) noRo fun w h => ?_ | refine t_fnn (R1_Get_con l 8 4 (by omega) (by omega) (by omega)) h (by repeat (first | exact Sub.nil _ | apply Sub.c0 | apply Sub.c1 | apply Sub.c2 | apply Sub.c3 | apply Sub.c4 | apply Sub.c5 | apply Sub.c6 | apply Sub.c7 | apply Sub.c8 | apply Sub.c9 | apply Sub.c10 | apply Sub.c11 | exact Sub.refl _)) noRo fun w h => ?_
  try dsimp only [List.set, setL, List.eraseIdx, List.cons_append, List.nil_append, List.append_nil, Nat.zero_add, Nat.reduceAdd, Sl.v] at h
  first | refine t_fn (R1_Get_con l 12 2 (by omega) (by omega) (by omega)) h (by repeat (first | exact Sub.nil _ | apply Sub.c0 | apply Sub.c1 | apply Sub.c2 | apply Sub.c3 | apply Sub.c4 | apply Sub.c5 | apply Sub.c6 | apply Sub.c7 | apply Sub.c8 | apply Sub.c9 | apply Sub.c10 | apply Sub.c11 | exact Sub.refl _)) noRo fun w h => ?_ | refine t_fnn (R1_Get_con l 12 2 (by omega) (by omega) (by omega)) h (by repeat (first | exact Sub.nil _ | apply Sub.c0 | apply Sub.c1 | apply Sub.c2 | apply Sub.c3 | apply Sub.c4 | apply Sub.c5 | apply Sub.c6 | apply Sub.c7 | apply Sub.c8 | apply Sub.c9 | apply Sub.c10 | apply Sub.c11 | exact Sub.refl _)) noRo fun w h => ?_
  try dsimp only [List.set, setL, List.eraseIdx, List.cons_append, List.nil_append, List.append_nil, Nat.zero_add, Nat.reduceAdd, Sl.v] at h
  first | refine t_fn (R1_Get_con l 14 2 (by omega) (by omega) (by omega)) h (by repeat (first | exact Sub.nil _ | apply Sub.c0 | apply Sub.c1 | apply Sub.c2 | apply Sub.c3 | apply Sub.c4 | apply Sub.c5 | apply Sub.c6 | apply Sub.c7 | apply Sub.c8 | apply Sub.c9 | apply Sub.c10 | apply Sub.c11 | exact Sub.refl _)) noRo fun w h => ?_ | refine t_fnn (R1_Get_con l 14 2 (by omega) (by omega) (by omega)) h (by repeat (first | exact Sub.nil _ | apply Sub.c0 | apply Sub.c1 | apply Sub.c2 | apply Sub.c3 | apply Sub.c4 | apply Sub.c5 | apply Sub.c6 | apply Sub.c7 | apply Sub.c8 | apply Sub.c9 | apply Sub.c10 | apply Sub.c11 | exact Sub.refl _)) noRo fun w h => ?_
  try dsimp only [List.set, setL, List.eraseIdx, List.cons_append, List.nil_append, List.append_nil, Nat.zero_add, Nat.reduceAdd, Sl.v] at h
  have e0 : ((M.beN ((l.drop 0).take 8).reverse : Nat) : Int) = (M.descOf l).addr := rfl
  have e1 : ((M.beN ((l.drop 8).take 4).reverse : Nat) : Int) = (M.descOf l).len := rfl
  have e2 : ((M.beN ((l.drop 12).take 2).reverse : Nat) : Int) = (M.descOf l).id := rfl
  have e3 : ((M.beN ((l.drop 14).take 2).reverse : Nat) : Int) = (M.descOf l).flags := rfl
  rw [e0, e1, e2, e3]
  generalize M.descOf l = d at *
  dsimp only
  rw [IntWalk.u32_in d.len (by omega), w64 (n := d.id) (by omega), w64 (n := d.flags) (by omega)]
  repeat (first
    | refine t_tickS h fun w h => ?_
    | refine t_keepN ?_
    | refine t_ldB h 0 rfl rfl ?_
    | refine t_ldB h 1 rfl rfl ?_
    | refine t_ldB h 2 rfl rfl ?_
    | refine t_ldB h 3 rfl rfl ?_
    | refine t_ldB h 4 rfl rfl ?_
    | refine t_ldB h 5 rfl rfl ?_
    | refine t_ldB h 6 rfl rfl ?_
    | refine t_ldB h 7 rfl rfl ?_
    | refine t_ldB h 8 rfl rfl ?_
    | refine t_ldB h 9 rfl rfl ?_
    | refine t_ldO h 0 rfl rfl rfl ?_
    | refine t_ldO h 1 rfl rfl rfl ?_
    | refine t_ldO h 2 rfl rfl rfl ?_
    | refine t_ldO h 3 rfl rfl rfl ?_
    | refine t_ldO h 4 rfl rfl rfl ?_
    | refine t_ldO h 5 rfl rfl rfl ?_
    | refine t_ldO h 6 rfl rfl rfl ?_
    | refine t_ldO h 7 rfl rfl rfl ?_
    | refine t_ldO h 8 rfl rfl rfl ?_
    | refine t_ldO h 9 rfl rfl rfl ?_
    | refine t_keepB h 0 rfl rfl ?_
    | refine t_keepB h 1 rfl rfl ?_
    | refine t_keepB h 2 rfl rfl ?_
    | refine t_keepB h 3 rfl rfl ?_
    | refine t_keepB h 4 rfl rfl ?_
    | refine t_keepB h 5 rfl rfl ?_
    | refine t_keepB h 6 rfl rfl ?_
    | refine t_keepB h 7 rfl rfl ?_
    | refine t_keepB h 8 rfl rfl ?_
    | refine t_keepB h 9 rfl rfl ?_
    | (refine t_stB h 0 rfl (by simp [setL]) (by simp [Value.oneCell']) fun w h => ?_; try dsimp only [List.set, setL, List.eraseIdx, List.cons_append, List.nil_append, List.append_nil, Nat.zero_add, Nat.reduceAdd, Sl.v] at h)
    | (refine t_stB h 1 rfl (by simp [setL]) (by simp [Value.oneCell']) fun w h => ?_; try dsimp only [List.set, setL, List.eraseIdx, List.cons_append, List.nil_append, List.append_nil, Nat.zero_add, Nat.reduceAdd, Sl.v] at h)
    | (refine t_stB h 2 rfl (by simp [setL]) (by simp [Value.oneCell']) fun w h => ?_; try dsimp only [List.set, setL, List.eraseIdx, List.cons_append, List.nil_append, List.append_nil, Nat.zero_add, Nat.reduceAdd, Sl.v] at h)
    | (refine t_stB h 3 rfl (by simp [setL]) (by simp [Value.oneCell']) fun w h => ?_; try dsimp only [List.set, setL, List.eraseIdx, List.cons_append, List.nil_append, List.append_nil, Nat.zero_add, Nat.reduceAdd, Sl.v] at h)
    | (refine t_stB h 4 rfl (by simp [setL]) (by simp [Value.oneCell']) fun w h => ?_; try dsimp only [List.set, setL, List.eraseIdx, List.cons_append, List.nil_append, List.append_nil, Nat.zero_add, Nat.reduceAdd, Sl.v] at h)
    | (refine t_stB h 5 rfl (by simp [setL]) (by simp [Value.oneCell']) fun w h => ?_; try dsimp only [List.set, setL, List.eraseIdx, List.cons_append, List.nil_append, List.append_nil, Nat.zero_add, Nat.reduceAdd, Sl.v] at h)
    | (refine t_stB h 6 rfl (by simp [setL]) (by simp [Value.oneCell']) fun w h => ?_; try dsimp only [List.set, setL, List.eraseIdx, List.cons_append, List.nil_append, List.append_nil, Nat.zero_add, Nat.reduceAdd, Sl.v] at h)
    | (refine t_stB h 7 rfl (by simp [setL]) (by simp [Value.oneCell']) fun w h => ?_; try dsimp only [List.set, setL, List.eraseIdx, List.cons_append, List.nil_append, List.append_nil, Nat.zero_add, Nat.reduceAdd, Sl.v] at h)
    | (refine t_stB h 8 rfl (by simp [setL]) (by simp [Value.oneCell']) fun w h => ?_; try dsimp only [List.set, setL, List.eraseIdx, List.cons_append, List.nil_append, List.append_nil, Nat.zero_add, Nat.reduceAdd, Sl.v] at h)
    | (refine t_stB h 9 rfl (by simp [setL]) (by simp [Value.oneCell']) fun w h => ?_; try dsimp only [List.set, setL, List.eraseIdx, List.cons_append, List.nil_append, List.append_nil, Nat.zero_add, Nat.reduceAdd, Sl.v] at h)
    | refine t_newB h (by simp [Value.oneCell']) fun w b h hb => ?_
    | refine t_nil ?_
    | refine t_true rfl ?_
    | refine t_false rfl ?_
    | refine t_yes rfl ?_
    | refine t_nyes rfl ?_
    | refine t_no (by decide) ?_
    | refine t_nno (by decide) ?_
    | refine t_need (by decide) ?_)
  try dsimp only [List.set, setL, List.eraseIdx, List.cons_append, List.nil_append, List.append_nil, Nat.zero_add, Nat.reduceAdd, Sl.v] at h
  exact t_ret ⟨rfl, h.weak (by repeat (first | exact Weak.refl _ | apply Weak.c0 | apply Weak.c1 | apply Weak.c2 | apply Weak.c3 | apply Weak.c4 | apply Weak.c5 | apply Weak.c6 | apply Weak.c7 | apply Weak.c8 | apply Weak.c9 | apply Weak.c10 | apply Weak.c11 | apply Weak.drop))⟩
theorem R12_Used_con (flags : Int) (wrap : Bool) (hf : 0 ≤ flags ∧ flags < 65536) : Con Tryz.prog NoRo 40 #[.int .i64 flags, .bool wrap] .B [] (decide (M.says flags wrap = 2)) [] := by
  intro w0 W w B _ h
  refine aqueductref12_Used.calls flags wrap ?_
  unfold aqueductref12_Used.T
  have e1 : (IntKind.i64.wrap (flags.tdiv 128)).tmod 2 = ((flags.toNat / 128 % 2 : Nat) : Int) := by
    rw [Int.tdiv_eq_ediv_of_nonneg hf.1, w64 (by omega), IntWalk.rem_in _ _ (by omega)]; omega
  have e2 : (IntKind.i64.wrap (flags.tdiv 32768)).tmod 2 = ((flags.toNat / 32768 % 2 : Nat) : Int) := by
    rw [Int.tdiv_eq_ediv_of_nonneg hf.1, w64 (by omega), IntWalk.rem_in _ _ (by omega)]; omega
  refine t_need (by decide) (t_need (by decide) (t_need (by decide) (t_need (by decide) ?_)))
  rw [e1, e2]
  have d1 : (decide (((flags.toNat / 128 % 2 : Nat) : Int) = 1)) = decide (flags.toNat / 128 % 2 = 1) := by rw [decide_eq_decide]; omega
  have d2 : (decide (((flags.toNat / 32768 % 2 : Nat) : Int) = 1)) = decide (flags.toNat / 32768 % 2 = 1) := by rw [decide_eq_decide]; omega
  rw [d1, d2]
  unfold M.says
  by_cases ha : flags.toNat / 128 % 2 = 1 <;> by_cases hu : flags.toNat / 32768 % 2 = 1 <;> simp only [ha, hu] <;> cases wrap <;> first | exact t_true rfl (t_ret ⟨by simp; rfl, h⟩) | exact t_false rfl (t_ret ⟨by simp; rfl, h⟩)
end Go.Proofs.YthfcneahnldgnaaGreat
