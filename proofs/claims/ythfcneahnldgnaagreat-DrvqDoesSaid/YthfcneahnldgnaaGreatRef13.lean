/- The reference's places and events. -/
import Derived.Test.YthfcneahnldgnaaGreatEvent
namespace Go.Proofs.YthfcneahnldgnaaGreat
open Go Vk
set_option linter.unusedSimpArgs false
set_option linter.unusedVariables false
theorem R13_Check_con (s : M.Spot) (size : Int) : Con Tryz.prog NoRo 64 #[Spot.v s, .int .i64 size] .I [] (M.spotCheck s size) [] := by
  intro w0 W w B _ h
  refine aqueductref13_Check.calls (s.at_, s.wrap, ()) size ?_
  unfold aqueductref13_Check.T
  repeat (first
    | refine t_tickS h fun w h => ?_
    | refine t_keepN ?_
    | refine t_ldB h 0 rfl rfl ?_
    | refine t_ldB h 1 rfl rfl ?_
    | refine t_ldB h 2 rfl rfl ?_
    | refine t_ldB h 3 rfl rfl ?_
    | refine t_ldB h 4 rfl rfl ?_
    | refine t_ldB h 5 rfl rfl ?_
    | refine t_ldB h 6 rfl rfl ?_
    | refine t_ldB h 7 rfl rfl ?_
    | refine t_ldB h 8 rfl rfl ?_
    | refine t_ldB h 9 rfl rfl ?_
    | refine t_ldO h 0 rfl rfl rfl ?_
    | refine t_ldO h 1 rfl rfl rfl ?_
    | refine t_ldO h 2 rfl rfl rfl ?_
    | refine t_ldO h 3 rfl rfl rfl ?_
    | refine t_ldO h 4 rfl rfl rfl ?_
    | refine t_ldO h 5 rfl rfl rfl ?_
    | refine t_ldO h 6 rfl rfl rfl ?_
    | refine t_ldO h 7 rfl rfl rfl ?_
    | refine t_ldO h 8 rfl rfl rfl ?_
    | refine t_ldO h 9 rfl rfl rfl ?_
    | refine t_keepB h 0 rfl rfl ?_
    | refine t_keepB h 1 rfl rfl ?_
    | refine t_keepB h 2 rfl rfl ?_
    | refine t_keepB h 3 rfl rfl ?_
    | refine t_keepB h 4 rfl rfl ?_
    | refine t_keepB h 5 rfl rfl ?_
    | refine t_keepB h 6 rfl rfl ?_
    | refine t_keepB h 7 rfl rfl ?_
    | refine t_keepB h 8 rfl rfl ?_
    | refine t_keepB h 9 rfl rfl ?_
    | (refine t_stB h 0 rfl (by simp [setL]) (by simp [Value.oneCell']) fun w h => ?_; try dsimp only [List.set, setL, List.eraseIdx, List.cons_append, List.nil_append, List.append_nil, Nat.zero_add, Nat.reduceAdd, Sl.v] at h)
    | (refine t_stB h 1 rfl (by simp [setL]) (by simp [Value.oneCell']) fun w h => ?_; try dsimp only [List.set, setL, List.eraseIdx, List.cons_append, List.nil_append, List.append_nil, Nat.zero_add, Nat.reduceAdd, Sl.v] at h)
    | (refine t_stB h 2 rfl (by simp [setL]) (by simp [Value.oneCell']) fun w h => ?_; try dsimp only [List.set, setL, List.eraseIdx, List.cons_append, List.nil_append, List.append_nil, Nat.zero_add, Nat.reduceAdd, Sl.v] at h)
    | (refine t_stB h 3 rfl (by simp [setL]) (by simp [Value.oneCell']) fun w h => ?_; try dsimp only [List.set, setL, List.eraseIdx, List.cons_append, List.nil_append, List.append_nil, Nat.zero_add, Nat.reduceAdd, Sl.v] at h)
    | (refine t_stB h 4 rfl (by simp [setL]) (by simp [Value.oneCell']) fun w h => ?_; try dsimp only [List.set, setL, List.eraseIdx, List.cons_append, List.nil_append, List.append_nil, Nat.zero_add, Nat.reduceAdd, Sl.v] at h)
    | (refine t_stB h 5 rfl (by simp [setL]) (by simp [Value.oneCell']) fun w h => ?_; try dsimp only [List.set, setL, List.eraseIdx, List.cons_append, List.nil_append, List.append_nil, Nat.zero_add, Nat.reduceAdd, Sl.v] at h)
    | (refine t_stB h 6 rfl (by simp [setL]) (by simp [Value.oneCell']) fun w h => ?_; try dsimp only [List.set, setL, List.eraseIdx, List.cons_append, List.nil_append, List.append_nil, Nat.zero_add, Nat.reduceAdd, Sl.v] at h)
    | (refine t_stB h 7 rfl (by simp [setL]) (by simp [Value.oneCell']) fun w h => ?_; try dsimp only [List.set, setL, List.eraseIdx, List.cons_append, List.nil_append, List.append_nil, Nat.zero_add, Nat.reduceAdd, Sl.v] at h)
    | (refine t_stB h 8 rfl (by simp [setL]) (by simp [Value.oneCell']) fun w h => ?_; try dsimp only [List.set, setL, List.eraseIdx, List.cons_append, List.nil_append, List.append_nil, Nat.zero_add, Nat.reduceAdd, Sl.v] at h)
    | (refine t_stB h 9 rfl (by simp [setL]) (by simp [Value.oneCell']) fun w h => ?_; try dsimp only [List.set, setL, List.eraseIdx, List.cons_append, List.nil_append, List.append_nil, Nat.zero_add, Nat.reduceAdd, Sl.v] at h)
    | refine t_newB h (by simp [Value.oneCell']) fun w b h hb => ?_
    | refine t_nil ?_
    | refine t_true rfl ?_
    | refine t_false rfl ?_
    | refine t_yes rfl ?_
    | refine t_nyes rfl ?_
    | refine t_no (by decide) ?_
    | refine t_nno (by decide) ?_
    | refine t_need (by decide) ?_)
  try dsimp only [List.set, setL, List.eraseIdx, List.cons_append, List.nil_append, List.append_nil, Nat.zero_add, Nat.reduceAdd, Sl.v] at h
  refine t_if (fun c1 => t_ret ⟨?_, h.drop⟩) (fun c1 => ?_)
  · simp [M.spotCheck, c1]; rfl
  refine t_if (fun c2 => t_ret ⟨?_, h.drop⟩) (fun c2 => ?_)
  · simp [M.spotCheck, c2]; rfl
  repeat (first
    | refine t_tickS h fun w h => ?_
    | refine t_keepN ?_
    | refine t_ldB h 0 rfl rfl ?_
    | refine t_ldB h 1 rfl rfl ?_
    | refine t_ldB h 2 rfl rfl ?_
    | refine t_ldB h 3 rfl rfl ?_
    | refine t_ldB h 4 rfl rfl ?_
    | refine t_ldB h 5 rfl rfl ?_
    | refine t_ldB h 6 rfl rfl ?_
    | refine t_ldB h 7 rfl rfl ?_
    | refine t_ldB h 8 rfl rfl ?_
    | refine t_ldB h 9 rfl rfl ?_
    | refine t_ldO h 0 rfl rfl rfl ?_
    | refine t_ldO h 1 rfl rfl rfl ?_
    | refine t_ldO h 2 rfl rfl rfl ?_
    | refine t_ldO h 3 rfl rfl rfl ?_
    | refine t_ldO h 4 rfl rfl rfl ?_
    | refine t_ldO h 5 rfl rfl rfl ?_
    | refine t_ldO h 6 rfl rfl rfl ?_
    | refine t_ldO h 7 rfl rfl rfl ?_
    | refine t_ldO h 8 rfl rfl rfl ?_
    | refine t_ldO h 9 rfl rfl rfl ?_
    | refine t_keepB h 0 rfl rfl ?_
    | refine t_keepB h 1 rfl rfl ?_
    | refine t_keepB h 2 rfl rfl ?_
    | refine t_keepB h 3 rfl rfl ?_
    | refine t_keepB h 4 rfl rfl ?_
    | refine t_keepB h 5 rfl rfl ?_
    | refine t_keepB h 6 rfl rfl ?_
    | refine t_keepB h 7 rfl rfl ?_
    | refine t_keepB h 8 rfl rfl ?_
    | refine t_keepB h 9 rfl rfl ?_
    | (refine t_stB h 0 rfl (by simp [setL]) (by simp [Value.oneCell']) fun w h => ?_; try dsimp only [List.set, setL, List.eraseIdx, List.cons_append, List.nil_append, List.append_nil, Nat.zero_add, Nat.reduceAdd, Sl.v] at h)
    | (refine t_stB h 1 rfl (by simp [setL]) (by simp [Value.oneCell']) fun w h => ?_; try dsimp only [List.set, setL, List.eraseIdx, List.cons_append, List.nil_append, List.append_nil, Nat.zero_add, Nat.reduceAdd, Sl.v] at h)
    | (refine t_stB h 2 rfl (by simp [setL]) (by simp [Value.oneCell']) fun w h => ?_; try dsimp only [List.set, setL, List.eraseIdx, List.cons_append, List.nil_append, List.append_nil, Nat.zero_add, Nat.reduceAdd, Sl.v] at h)
    | (refine t_stB h 3 rfl (by simp [setL]) (by simp [Value.oneCell']) fun w h => ?_; try dsimp only [List.set, setL, List.eraseIdx, List.cons_append, List.nil_append, List.append_nil, Nat.zero_add, Nat.reduceAdd, Sl.v] at h)
    | (refine t_stB h 4 rfl (by simp [setL]) (by simp [Value.oneCell']) fun w h => ?_; try dsimp only [List.set, setL, List.eraseIdx, List.cons_append, List.nil_append, List.append_nil, Nat.zero_add, Nat.reduceAdd, Sl.v] at h)
    | (refine t_stB h 5 rfl (by simp [setL]) (by simp [Value.oneCell']) fun w h => ?_; try dsimp only [List.set, setL, List.eraseIdx, List.cons_append, List.nil_append, List.append_nil, Nat.zero_add, Nat.reduceAdd, Sl.v] at h)
    | (refine t_stB h 6 rfl (by simp [setL]) (by simp [Value.oneCell']) fun w h => ?_; try dsimp only [List.set, setL, List.eraseIdx, List.cons_append, List.nil_append, List.append_nil, Nat.zero_add, Nat.reduceAdd, Sl.v] at h)
    | (refine t_stB h 7 rfl (by simp [setL]) (by simp [Value.oneCell']) fun w h => ?_; try dsimp only [List.set, setL, List.eraseIdx, List.cons_append, List.nil_append, List.append_nil, Nat.zero_add, Nat.reduceAdd, Sl.v] at h)
    | (refine t_stB h 8 rfl (by simp [setL]) (by simp [Value.oneCell']) fun w h => ?_; try dsimp only [List.set, setL, List.eraseIdx, List.cons_append, List.nil_append, List.append_nil, Nat.zero_add, Nat.reduceAdd, Sl.v] at h)
    | (refine t_stB h 9 rfl (by simp [setL]) (by simp [Value.oneCell']) fun w h => ?_; try dsimp only [List.set, setL, List.eraseIdx, List.cons_append, List.nil_append, List.append_nil, Nat.zero_add, Nat.reduceAdd, Sl.v] at h)
    | refine t_newB h (by simp [Value.oneCell']) fun w b h hb => ?_
    | refine t_nil ?_
    | refine t_true rfl ?_
    | refine t_false rfl ?_
    | refine t_yes rfl ?_
    | refine t_nyes rfl ?_
    | refine t_no (by decide) ?_
    | refine t_nno (by decide) ?_
    | refine t_need (by decide) ?_)
  try dsimp only [List.set, setL, List.eraseIdx, List.cons_append, List.nil_append, List.append_nil, Nat.zero_add, Nat.reduceAdd, Sl.v] at h
  refine t_if (fun c3 => t_ret ⟨?_, h.drop⟩) (fun c3 => ?_)
  · simp [M.spotCheck, c1, c2, c3]; rfl
  repeat (first
    | refine t_tickS h fun w h => ?_
    | refine t_keepN ?_
    | refine t_ldB h 0 rfl rfl ?_
    | refine t_ldB h 1 rfl rfl ?_
    | refine t_ldB h 2 rfl rfl ?_
    | refine t_ldB h 3 rfl rfl ?_
    | refine t_ldB h 4 rfl rfl ?_
    | refine t_ldB h 5 rfl rfl ?_
    | refine t_ldB h 6 rfl rfl ?_
    | refine t_ldB h 7 rfl rfl ?_
    | refine t_ldB h 8 rfl rfl ?_
    | refine t_ldB h 9 rfl rfl ?_
    | refine t_ldO h 0 rfl rfl rfl ?_
    | refine t_ldO h 1 rfl rfl rfl ?_
    | refine t_ldO h 2 rfl rfl rfl ?_
    | refine t_ldO h 3 rfl rfl rfl ?_
    | refine t_ldO h 4 rfl rfl rfl ?_
    | refine t_ldO h 5 rfl rfl rfl ?_
    | refine t_ldO h 6 rfl rfl rfl ?_
    | refine t_ldO h 7 rfl rfl rfl ?_
    | refine t_ldO h 8 rfl rfl rfl ?_
    | refine t_ldO h 9 rfl rfl rfl ?_
    | refine t_keepB h 0 rfl rfl ?_
    | refine t_keepB h 1 rfl rfl ?_
    | refine t_keepB h 2 rfl rfl ?_
    | refine t_keepB h 3 rfl rfl ?_
    | refine t_keepB h 4 rfl rfl ?_
    | refine t_keepB h 5 rfl rfl ?_
    | refine t_keepB h 6 rfl rfl ?_
    | refine t_keepB h 7 rfl rfl ?_
    | refine t_keepB h 8 rfl rfl ?_
    | refine t_keepB h 9 rfl rfl ?_
    | (refine t_stB h 0 rfl (by simp [setL]) (by simp [Value.oneCell']) fun w h => ?_; try dsimp only [List.set, setL, List.eraseIdx, List.cons_append, List.nil_append, List.append_nil, Nat.zero_add, Nat.reduceAdd, Sl.v] at h)
    | (refine t_stB h 1 rfl (by simp [setL]) (by simp [Value.oneCell']) fun w h => ?_; try dsimp only [List.set, setL, List.eraseIdx, List.cons_append, List.nil_append, List.append_nil, Nat.zero_add, Nat.reduceAdd, Sl.v] at h)
    | (refine t_stB h 2 rfl (by simp [setL]) (by simp [Value.oneCell']) fun w h => ?_; try dsimp only [List.set, setL, List.eraseIdx, List.cons_append, List.nil_append, List.append_nil, Nat.zero_add, Nat.reduceAdd, Sl.v] at h)
    | (refine t_stB h 3 rfl (by simp [setL]) (by simp [Value.oneCell']) fun w h => ?_; try dsimp only [List.set, setL, List.eraseIdx, List.cons_append, List.nil_append, List.append_nil, Nat.zero_add, Nat.reduceAdd, Sl.v] at h)
    | (refine t_stB h 4 rfl (by simp [setL]) (by simp [Value.oneCell']) fun w h => ?_; try dsimp only [List.set, setL, List.eraseIdx, List.cons_append, List.nil_append, List.append_nil, Nat.zero_add, Nat.reduceAdd, Sl.v] at h)
    | (refine t_stB h 5 rfl (by simp [setL]) (by simp [Value.oneCell']) fun w h => ?_; try dsimp only [List.set, setL, List.eraseIdx, List.cons_append, List.nil_append, List.append_nil, Nat.zero_add, Nat.reduceAdd, Sl.v] at h)
    | (refine t_stB h 6 rfl (by simp [setL]) (by simp [Value.oneCell']) fun w h => ?_; try dsimp only [List.set, setL, List.eraseIdx, List.cons_append, List.nil_append, List.append_nil, Nat.zero_add, Nat.reduceAdd, Sl.v] at h)
    | (refine t_stB h 7 rfl (by simp [setL]) (by simp [Value.oneCell']) fun w h => ?_; try dsimp only [List.set, setL, List.eraseIdx, List.cons_append, List.nil_append, List.append_nil, Nat.zero_add, Nat.reduceAdd, Sl.v] at h)
    | (refine t_stB h 8 rfl (by simp [setL]) (by simp [Value.oneCell']) fun w h => ?_; try dsimp only [List.set, setL, List.eraseIdx, List.cons_append, List.nil_append, List.append_nil, Nat.zero_add, Nat.reduceAdd, Sl.v] at h)
    | (refine t_stB h 9 rfl (by simp [setL]) (by simp [Value.oneCell']) fun w h => ?_; try dsimp only [List.set, setL, List.eraseIdx, List.cons_append, List.nil_append, List.append_nil, Nat.zero_add, Nat.reduceAdd, Sl.v] at h)
    | refine t_newB h (by simp [Value.oneCell']) fun w b h hb => ?_
    | refine t_nil ?_
    | refine t_true rfl ?_
    | refine t_false rfl ?_
    | refine t_yes rfl ?_
    | refine t_nyes rfl ?_
    | refine t_no (by decide) ?_
    | refine t_nno (by decide) ?_
    | refine t_need (by decide) ?_)
  try dsimp only [List.set, setL, List.eraseIdx, List.cons_append, List.nil_append, List.append_nil, Nat.zero_add, Nat.reduceAdd, Sl.v] at h
  rw [w64 (n := size - 1) (by omega)]
  refine t_if (fun c4 => t_ret ⟨?_, h.drop⟩) (fun c4 => t_ret ⟨?_, h.drop⟩)
  · simp [M.spotCheck, c1, c2, c3, show size ≤ s.at_ by omega]; rfl
  · simp [M.spotCheck, c1, c2, c3, show ¬ size ≤ s.at_ by omega]; rfl
theorem R13_one_con (s : M.Spot) (size : Int) (h1 : 1 ≤ size ∧ size ≤ 32768) (hs : s.In size) : Con Tryz.prog NoRo 65 #[Spot.v s, .int .i64 size] (.one (.agg [.I, .bool])) [] ((M.spotOne s size).at_, (M.spotOne s size).wrap, ()) [] := by
  intro w0 W w B _ h
  refine aqueductref13_one.calls (s.at_, s.wrap, ()) size ?_
  unfold aqueductref13_one.T
  unfold M.Spot.In at hs
  repeat (first
    | refine t_tickS h fun w h => ?_
    | refine t_keepN ?_
    | refine t_ldB h 0 rfl rfl ?_
    | refine t_ldB h 1 rfl rfl ?_
    | refine t_ldB h 2 rfl rfl ?_
    | refine t_ldB h 3 rfl rfl ?_
    | refine t_ldB h 4 rfl rfl ?_
    | refine t_ldB h 5 rfl rfl ?_
    | refine t_ldB h 6 rfl rfl ?_
    | refine t_ldB h 7 rfl rfl ?_
    | refine t_ldB h 8 rfl rfl ?_
    | refine t_ldB h 9 rfl rfl ?_
    | refine t_ldO h 0 rfl rfl rfl ?_
    | refine t_ldO h 1 rfl rfl rfl ?_
    | refine t_ldO h 2 rfl rfl rfl ?_
    | refine t_ldO h 3 rfl rfl rfl ?_
    | refine t_ldO h 4 rfl rfl rfl ?_
    | refine t_ldO h 5 rfl rfl rfl ?_
    | refine t_ldO h 6 rfl rfl rfl ?_
    | refine t_ldO h 7 rfl rfl rfl ?_
    | refine t_ldO h 8 rfl rfl rfl ?_
    | refine t_ldO h 9 rfl rfl rfl ?_
    | refine t_keepB h 0 rfl rfl ?_
    | refine t_keepB h 1 rfl rfl ?_
    | refine t_keepB h 2 rfl rfl ?_
    | refine t_keepB h 3 rfl rfl ?_
    | refine t_keepB h 4 rfl rfl ?_
    | refine t_keepB h 5 rfl rfl ?_
    | refine t_keepB h 6 rfl rfl ?_
    | refine t_keepB h 7 rfl rfl ?_
    | refine t_keepB h 8 rfl rfl ?_
    | refine t_keepB h 9 rfl rfl ?_
    | (refine t_stB h 0 rfl (by simp [setL]) (by simp [Value.oneCell']) fun w h => ?_; try dsimp only [List.set, setL, List.eraseIdx, List.cons_append, List.nil_append, List.append_nil, Nat.zero_add, Nat.reduceAdd, Sl.v] at h)
    | (refine t_stB h 1 rfl (by simp [setL]) (by simp [Value.oneCell']) fun w h => ?_; try dsimp only [List.set, setL, List.eraseIdx, List.cons_append, List.nil_append, List.append_nil, Nat.zero_add, Nat.reduceAdd, Sl.v] at h)
    | (refine t_stB h 2 rfl (by simp [setL]) (by simp [Value.oneCell']) fun w h => ?_; try dsimp only [List.set, setL, List.eraseIdx, List.cons_append, List.nil_append, List.append_nil, Nat.zero_add, Nat.reduceAdd, Sl.v] at h)
    | (refine t_stB h 3 rfl (by simp [setL]) (by simp [Value.oneCell']) fun w h => ?_; try dsimp only [List.set, setL, List.eraseIdx, List.cons_append, List.nil_append, List.append_nil, Nat.zero_add, Nat.reduceAdd, Sl.v] at h)
    | (refine t_stB h 4 rfl (by simp [setL]) (by simp [Value.oneCell']) fun w h => ?_; try dsimp only [List.set, setL, List.eraseIdx, List.cons_append, List.nil_append, List.append_nil, Nat.zero_add, Nat.reduceAdd, Sl.v] at h)
    | (refine t_stB h 5 rfl (by simp [setL]) (by simp [Value.oneCell']) fun w h => ?_; try dsimp only [List.set, setL, List.eraseIdx, List.cons_append, List.nil_append, List.append_nil, Nat.zero_add, Nat.reduceAdd, Sl.v] at h)
    | (refine t_stB h 6 rfl (by simp [setL]) (by simp [Value.oneCell']) fun w h => ?_; try dsimp only [List.set, setL, List.eraseIdx, List.cons_append, List.nil_append, List.append_nil, Nat.zero_add, Nat.reduceAdd, Sl.v] at h)
    | (refine t_stB h 7 rfl (by simp [setL]) (by simp [Value.oneCell']) fun w h => ?_; try dsimp only [List.set, setL, List.eraseIdx, List.cons_append, List.nil_append, List.append_nil, Nat.zero_add, Nat.reduceAdd, Sl.v] at h)
    | (refine t_stB h 8 rfl (by simp [setL]) (by simp [Value.oneCell']) fun w h => ?_; try dsimp only [List.set, setL, List.eraseIdx, List.cons_append, List.nil_append, List.append_nil, Nat.zero_add, Nat.reduceAdd, Sl.v] at h)
    | (refine t_stB h 9 rfl (by simp [setL]) (by simp [Value.oneCell']) fun w h => ?_; try dsimp only [List.set, setL, List.eraseIdx, List.cons_append, List.nil_append, List.append_nil, Nat.zero_add, Nat.reduceAdd, Sl.v] at h)
    | refine t_newB h (by simp [Value.oneCell']) fun w b h hb => ?_
    | refine t_nil ?_
    | refine t_true rfl ?_
    | refine t_false rfl ?_
    | refine t_yes rfl ?_
    | refine t_nyes rfl ?_
    | refine t_no (by decide) ?_
    | refine t_nno (by decide) ?_
    | refine t_need (by decide) ?_)
  try dsimp only [List.set, setL, List.eraseIdx, List.cons_append, List.nil_append, List.append_nil, Nat.zero_add, Nat.reduceAdd, Sl.v] at h
  rw [w64 (n := size - 1) (by omega)]
  unfold M.spotOne
  refine t_if (fun c1 => ?_) (fun c1 => ?_)
  · rw [if_pos c1]
    repeat (first
      | refine t_tickS h fun w h => ?_
      | refine t_keepN ?_
      | refine t_ldB h 0 rfl rfl ?_
      | refine t_ldB h 1 rfl rfl ?_
      | refine t_ldB h 2 rfl rfl ?_
      | refine t_ldB h 3 rfl rfl ?_
      | refine t_ldB h 4 rfl rfl ?_
      | refine t_ldB h 5 rfl rfl ?_
      | refine t_ldB h 6 rfl rfl ?_
      | refine t_ldB h 7 rfl rfl ?_
      | refine t_ldB h 8 rfl rfl ?_
      | refine t_ldB h 9 rfl rfl ?_
      | refine t_ldO h 0 rfl rfl rfl ?_
      | refine t_ldO h 1 rfl rfl rfl ?_
      | refine t_ldO h 2 rfl rfl rfl ?_
      | refine t_ldO h 3 rfl rfl rfl ?_
      | refine t_ldO h 4 rfl rfl rfl ?_
      | refine t_ldO h 5 rfl rfl rfl ?_
      | refine t_ldO h 6 rfl rfl rfl ?_
      | refine t_ldO h 7 rfl rfl rfl ?_
      | refine t_ldO h 8 rfl rfl rfl ?_
      | refine t_ldO h 9 rfl rfl rfl ?_
      | refine t_keepB h 0 rfl rfl ?_
      | refine t_keepB h 1 rfl rfl ?_
      | refine t_keepB h 2 rfl rfl ?_
      | refine t_keepB h 3 rfl rfl ?_
      | refine t_keepB h 4 rfl rfl ?_
      | refine t_keepB h 5 rfl rfl ?_
      | refine t_keepB h 6 rfl rfl ?_
      | refine t_keepB h 7 rfl rfl ?_
      | refine t_keepB h 8 rfl rfl ?_
      | refine t_keepB h 9 rfl rfl ?_
      | (refine t_stB h 0 rfl (by simp [setL]) (by simp [Value.oneCell']) fun w h => ?_; try dsimp only [List.set, setL, List.eraseIdx, List.cons_append, List.nil_append, List.append_nil, Nat.zero_add, Nat.reduceAdd, Sl.v] at h)
      | (refine t_stB h 1 rfl (by simp [setL]) (by simp [Value.oneCell']) fun w h => ?_; try dsimp only [List.set, setL, List.eraseIdx, List.cons_append, List.nil_append, List.append_nil, Nat.zero_add, Nat.reduceAdd, Sl.v] at h)
      | (refine t_stB h 2 rfl (by simp [setL]) (by simp [Value.oneCell']) fun w h => ?_; try dsimp only [List.set, setL, List.eraseIdx, List.cons_append, List.nil_append, List.append_nil, Nat.zero_add, Nat.reduceAdd, Sl.v] at h)
      | (refine t_stB h 3 rfl (by simp [setL]) (by simp [Value.oneCell']) fun w h => ?_; try dsimp only [List.set, setL, List.eraseIdx, List.cons_append, List.nil_append, List.append_nil, Nat.zero_add, Nat.reduceAdd, Sl.v] at h)
      | (refine t_stB h 4 rfl (by simp [setL]) (by simp [Value.oneCell']) fun w h => ?_; try dsimp only [List.set, setL, List.eraseIdx, List.cons_append, List.nil_append, List.append_nil, Nat.zero_add, Nat.reduceAdd, Sl.v] at h)
      | (refine t_stB h 5 rfl (by simp [setL]) (by simp [Value.oneCell']) fun w h => ?_; try dsimp only [List.set, setL, List.eraseIdx, List.cons_append, List.nil_append, List.append_nil, Nat.zero_add, Nat.reduceAdd, Sl.v] at h)
      | (refine t_stB h 6 rfl (by simp [setL]) (by simp [Value.oneCell']) fun w h => ?_; try dsimp only [List.set, setL, List.eraseIdx, List.cons_append, List.nil_append, List.append_nil, Nat.zero_add, Nat.reduceAdd, Sl.v] at h)
      | (refine t_stB h 7 rfl (by simp [setL]) (by simp [Value.oneCell']) fun w h => ?_; try dsimp only [List.set, setL, List.eraseIdx, List.cons_append, List.nil_append, List.append_nil, Nat.zero_add, Nat.reduceAdd, Sl.v] at h)
      | (refine t_stB h 8 rfl (by simp [setL]) (by simp [Value.oneCell']) fun w h => ?_; try dsimp only [List.set, setL, List.eraseIdx, List.cons_append, List.nil_append, List.append_nil, Nat.zero_add, Nat.reduceAdd, Sl.v] at h)
      | (refine t_stB h 9 rfl (by simp [setL]) (by simp [Value.oneCell']) fun w h => ?_; try dsimp only [List.set, setL, List.eraseIdx, List.cons_append, List.nil_append, List.append_nil, Nat.zero_add, Nat.reduceAdd, Sl.v] at h)
      | refine t_newB h (by simp [Value.oneCell']) fun w b h hb => ?_
      | refine t_nil ?_
      | refine t_true rfl ?_
      | refine t_false rfl ?_
      | refine t_yes rfl ?_
      | refine t_nyes rfl ?_
      | refine t_no (by decide) ?_
      | refine t_nno (by decide) ?_
      | refine t_need (by decide) ?_)
    try dsimp only [List.set, setL, List.eraseIdx, List.cons_append, List.nil_append, List.append_nil, Nat.zero_add, Nat.reduceAdd, Sl.v] at h
    exact t_ret ⟨rfl, h.weak (by repeat (first | exact Weak.refl _ | apply Weak.c0 | apply Weak.c1 | apply Weak.c2 | apply Weak.c3 | apply Weak.c4 | apply Weak.c5 | apply Weak.c6 | apply Weak.c7 | apply Weak.c8 | apply Weak.c9 | apply Weak.c10 | apply Weak.c11 | apply Weak.drop))⟩
  · rw [if_neg c1]
    repeat (first
      | refine t_tickS h fun w h => ?_
      | refine t_keepN ?_
      | refine t_ldB h 0 rfl rfl ?_
      | refine t_ldB h 1 rfl rfl ?_
      | refine t_ldB h 2 rfl rfl ?_
      | refine t_ldB h 3 rfl rfl ?_
      | refine t_ldB h 4 rfl rfl ?_
      | refine t_ldB h 5 rfl rfl ?_
      | refine t_ldB h 6 rfl rfl ?_
      | refine t_ldB h 7 rfl rfl ?_
      | refine t_ldB h 8 rfl rfl ?_
      | refine t_ldB h 9 rfl rfl ?_
      | refine t_ldO h 0 rfl rfl rfl ?_
      | refine t_ldO h 1 rfl rfl rfl ?_
      | refine t_ldO h 2 rfl rfl rfl ?_
      | refine t_ldO h 3 rfl rfl rfl ?_
      | refine t_ldO h 4 rfl rfl rfl ?_
      | refine t_ldO h 5 rfl rfl rfl ?_
      | refine t_ldO h 6 rfl rfl rfl ?_
      | refine t_ldO h 7 rfl rfl rfl ?_
      | refine t_ldO h 8 rfl rfl rfl ?_
      | refine t_ldO h 9 rfl rfl rfl ?_
      | refine t_keepB h 0 rfl rfl ?_
      | refine t_keepB h 1 rfl rfl ?_
      | refine t_keepB h 2 rfl rfl ?_
      | refine t_keepB h 3 rfl rfl ?_
      | refine t_keepB h 4 rfl rfl ?_
      | refine t_keepB h 5 rfl rfl ?_
      | refine t_keepB h 6 rfl rfl ?_
      | refine t_keepB h 7 rfl rfl ?_
      | refine t_keepB h 8 rfl rfl ?_
      | refine t_keepB h 9 rfl rfl ?_
      | (refine t_stB h 0 rfl (by simp [setL]) (by simp [Value.oneCell']) fun w h => ?_; try dsimp only [List.set, setL, List.eraseIdx, List.cons_append, List.nil_append, List.append_nil, Nat.zero_add, Nat.reduceAdd, Sl.v] at h)
      | (refine t_stB h 1 rfl (by simp [setL]) (by simp [Value.oneCell']) fun w h => ?_; try dsimp only [List.set, setL, List.eraseIdx, List.cons_append, List.nil_append, List.append_nil, Nat.zero_add, Nat.reduceAdd, Sl.v] at h)
      | (refine t_stB h 2 rfl (by simp [setL]) (by simp [Value.oneCell']) fun w h => ?_; try dsimp only [List.set, setL, List.eraseIdx, List.cons_append, List.nil_append, List.append_nil, Nat.zero_add, Nat.reduceAdd, Sl.v] at h)
      | (refine t_stB h 3 rfl (by simp [setL]) (by simp [Value.oneCell']) fun w h => ?_; try dsimp only [List.set, setL, List.eraseIdx, List.cons_append, List.nil_append, List.append_nil, Nat.zero_add, Nat.reduceAdd, Sl.v] at h)
      | (refine t_stB h 4 rfl (by simp [setL]) (by simp [Value.oneCell']) fun w h => ?_; try dsimp only [List.set, setL, List.eraseIdx, List.cons_append, List.nil_append, List.append_nil, Nat.zero_add, Nat.reduceAdd, Sl.v] at h)
      | (refine t_stB h 5 rfl (by simp [setL]) (by simp [Value.oneCell']) fun w h => ?_; try dsimp only [List.set, setL, List.eraseIdx, List.cons_append, List.nil_append, List.append_nil, Nat.zero_add, Nat.reduceAdd, Sl.v] at h)
      | (refine t_stB h 6 rfl (by simp [setL]) (by simp [Value.oneCell']) fun w h => ?_; try dsimp only [List.set, setL, List.eraseIdx, List.cons_append, List.nil_append, List.append_nil, Nat.zero_add, Nat.reduceAdd, Sl.v] at h)
      | (refine t_stB h 7 rfl (by simp [setL]) (by simp [Value.oneCell']) fun w h => ?_; try dsimp only [List.set, setL, List.eraseIdx, List.cons_append, List.nil_append, List.append_nil, Nat.zero_add, Nat.reduceAdd, Sl.v] at h)
      | (refine t_stB h 8 rfl (by simp [setL]) (by simp [Value.oneCell']) fun w h => ?_; try dsimp only [List.set, setL, List.eraseIdx, List.cons_append, List.nil_append, List.append_nil, Nat.zero_add, Nat.reduceAdd, Sl.v] at h)
      | (refine t_stB h 9 rfl (by simp [setL]) (by simp [Value.oneCell']) fun w h => ?_; try dsimp only [List.set, setL, List.eraseIdx, List.cons_append, List.nil_append, List.append_nil, Nat.zero_add, Nat.reduceAdd, Sl.v] at h)
      | refine t_newB h (by simp [Value.oneCell']) fun w b h hb => ?_
      | refine t_nil ?_
      | refine t_true rfl ?_
      | refine t_false rfl ?_
      | refine t_yes rfl ?_
      | refine t_nyes rfl ?_
      | refine t_no (by decide) ?_
      | refine t_nno (by decide) ?_
      | refine t_need (by decide) ?_)
    try dsimp only [List.set, setL, List.eraseIdx, List.cons_append, List.nil_append, List.append_nil, Nat.zero_add, Nat.reduceAdd, Sl.v] at h
    refine t_ret ⟨?_, h.weak (by repeat (first | exact Weak.refl _ | apply Weak.c0 | apply Weak.c1 | apply Weak.c2 | apply Weak.c3 | apply Weak.c4 | apply Weak.c5 | apply Weak.c6 | apply Weak.c7 | apply Weak.c8 | apply Weak.c9 | apply Weak.c10 | apply Weak.c11 | apply Weak.drop))⟩
    rw [w64 (n := s.at_ + 1) (by omega)]; rfl
theorem R13_Next_con (s : M.Spot) (n size : Int) : Con Tryz.prog NoRo 33 #[Spot.v s, .int .i64 n, .int .i64 size] (.tup [.agg [.I, .bool], .I]) [] (((M.spotNext s n size).1.at_, (M.spotNext s n size).1.wrap, ()), (M.spotNext s n size).2, ()) [] := by
  intro w0 W w B _ h
  refine aqueductref13_Next.calls (s.at_, s.wrap, ()) n size ?_
  unfold aqueductref13_Next.T
  refine t_newB h (by simp [Value.oneCell']) fun w sb h hsb => ?_
  refine t_newB h (by simp [Value.oneCell']) fun w rb h hrb => ?_
  repeat (first
    | refine t_tickS h fun w h => ?_
    | refine t_keepN ?_
    | refine t_ldB h 0 rfl rfl ?_
    | refine t_ldB h 1 rfl rfl ?_
    | refine t_ldB h 2 rfl rfl ?_
    | refine t_ldB h 3 rfl rfl ?_
    | refine t_ldB h 4 rfl rfl ?_
    | refine t_ldB h 5 rfl rfl ?_
    | refine t_ldB h 6 rfl rfl ?_
    | refine t_ldB h 7 rfl rfl ?_
    | refine t_ldB h 8 rfl rfl ?_
    | refine t_ldB h 9 rfl rfl ?_
    | refine t_ldO h 0 rfl rfl rfl ?_
    | refine t_ldO h 1 rfl rfl rfl ?_
    | refine t_ldO h 2 rfl rfl rfl ?_
    | refine t_ldO h 3 rfl rfl rfl ?_
    | refine t_ldO h 4 rfl rfl rfl ?_
    | refine t_ldO h 5 rfl rfl rfl ?_
    | refine t_ldO h 6 rfl rfl rfl ?_
    | refine t_ldO h 7 rfl rfl rfl ?_
    | refine t_ldO h 8 rfl rfl rfl ?_
    | refine t_ldO h 9 rfl rfl rfl ?_
    | refine t_keepB h 0 rfl rfl ?_
    | refine t_keepB h 1 rfl rfl ?_
    | refine t_keepB h 2 rfl rfl ?_
    | refine t_keepB h 3 rfl rfl ?_
    | refine t_keepB h 4 rfl rfl ?_
    | refine t_keepB h 5 rfl rfl ?_
    | refine t_keepB h 6 rfl rfl ?_
    | refine t_keepB h 7 rfl rfl ?_
    | refine t_keepB h 8 rfl rfl ?_
    | refine t_keepB h 9 rfl rfl ?_
    | (refine t_stB h 0 rfl (by simp [setL]) (by simp [Value.oneCell']) fun w h => ?_; try dsimp only [List.set, setL, List.eraseIdx, List.cons_append, List.nil_append, List.append_nil, Nat.zero_add, Nat.reduceAdd, Sl.v] at h)
    | (refine t_stB h 1 rfl (by simp [setL]) (by simp [Value.oneCell']) fun w h => ?_; try dsimp only [List.set, setL, List.eraseIdx, List.cons_append, List.nil_append, List.append_nil, Nat.zero_add, Nat.reduceAdd, Sl.v] at h)
    | (refine t_stB h 2 rfl (by simp [setL]) (by simp [Value.oneCell']) fun w h => ?_; try dsimp only [List.set, setL, List.eraseIdx, List.cons_append, List.nil_append, List.append_nil, Nat.zero_add, Nat.reduceAdd, Sl.v] at h)
    | (refine t_stB h 3 rfl (by simp [setL]) (by simp [Value.oneCell']) fun w h => ?_; try dsimp only [List.set, setL, List.eraseIdx, List.cons_append, List.nil_append, List.append_nil, Nat.zero_add, Nat.reduceAdd, Sl.v] at h)
    | (refine t_stB h 4 rfl (by simp [setL]) (by simp [Value.oneCell']) fun w h => ?_; try dsimp only [List.set, setL, List.eraseIdx, List.cons_append, List.nil_append, List.append_nil, Nat.zero_add, Nat.reduceAdd, Sl.v] at h)
    | (refine t_stB h 5 rfl (by simp [setL]) (by simp [Value.oneCell']) fun w h => ?_; try dsimp only [List.set, setL, List.eraseIdx, List.cons_append, List.nil_append, List.append_nil, Nat.zero_add, Nat.reduceAdd, Sl.v] at h)
    | (refine t_stB h 6 rfl (by simp [setL]) (by simp [Value.oneCell']) fun w h => ?_; try dsimp only [List.set, setL, List.eraseIdx, List.cons_append, List.nil_append, List.append_nil, Nat.zero_add, Nat.reduceAdd, Sl.v] at h)
    | (refine t_stB h 7 rfl (by simp [setL]) (by simp [Value.oneCell']) fun w h => ?_; try dsimp only [List.set, setL, List.eraseIdx, List.cons_append, List.nil_append, List.append_nil, Nat.zero_add, Nat.reduceAdd, Sl.v] at h)
    | (refine t_stB h 8 rfl (by simp [setL]) (by simp [Value.oneCell']) fun w h => ?_; try dsimp only [List.set, setL, List.eraseIdx, List.cons_append, List.nil_append, List.append_nil, Nat.zero_add, Nat.reduceAdd, Sl.v] at h)
    | (refine t_stB h 9 rfl (by simp [setL]) (by simp [Value.oneCell']) fun w h => ?_; try dsimp only [List.set, setL, List.eraseIdx, List.cons_append, List.nil_append, List.append_nil, Nat.zero_add, Nat.reduceAdd, Sl.v] at h)
    | refine t_newB h (by simp [Value.oneCell']) fun w b h hb => ?_
    | refine t_nil ?_
    | refine t_true rfl ?_
    | refine t_false rfl ?_
    | refine t_yes rfl ?_
    | refine t_nyes rfl ?_
    | refine t_no (by decide) ?_
    | refine t_nno (by decide) ?_
    | refine t_need (by decide) ?_)
  try dsimp only [List.set, setL, List.eraseIdx, List.cons_append, List.nil_append, List.append_nil, Nat.zero_add, Nat.reduceAdd, Sl.v] at h
  first | refine t_fn (R13_Check_con s size) h (by repeat (first | exact Sub.nil _ | apply Sub.c0 | apply Sub.c1 | apply Sub.c2 | apply Sub.c3 | apply Sub.c4 | apply Sub.c5 | apply Sub.c6 | apply Sub.c7 | apply Sub.c8 | apply Sub.c9 | apply Sub.c10 | apply Sub.c11 | exact Sub.refl _)) noRo fun w h => ?_ | refine t_fnn (R13_Check_con s size) h (by repeat (first | exact Sub.nil _ | apply Sub.c0 | apply Sub.c1 | apply Sub.c2 | apply Sub.c3 | apply Sub.c4 | apply Sub.c5 | apply Sub.c6 | apply Sub.c7 | apply Sub.c8 | apply Sub.c9 | apply Sub.c10 | apply Sub.c11 | exact Sub.refl _)) noRo fun w h => ?_
  try dsimp only [List.set, setL, List.eraseIdx, List.cons_append, List.nil_append, List.append_nil, Nat.zero_add, Nat.reduceAdd, Sl.v] at h
  refine t_ifn (fun c1 => ?_) (fun c1 => ?_)
  · repeat (first
      | refine t_tickS h fun w h => ?_
      | refine t_keepN ?_
      | refine t_ldB h 0 rfl rfl ?_
      | refine t_ldB h 1 rfl rfl ?_
      | refine t_ldB h 2 rfl rfl ?_
      | refine t_ldB h 3 rfl rfl ?_
      | refine t_ldB h 4 rfl rfl ?_
      | refine t_ldB h 5 rfl rfl ?_
      | refine t_ldB h 6 rfl rfl ?_
      | refine t_ldB h 7 rfl rfl ?_
      | refine t_ldB h 8 rfl rfl ?_
      | refine t_ldB h 9 rfl rfl ?_
      | refine t_ldO h 0 rfl rfl rfl ?_
      | refine t_ldO h 1 rfl rfl rfl ?_
      | refine t_ldO h 2 rfl rfl rfl ?_
      | refine t_ldO h 3 rfl rfl rfl ?_
      | refine t_ldO h 4 rfl rfl rfl ?_
      | refine t_ldO h 5 rfl rfl rfl ?_
      | refine t_ldO h 6 rfl rfl rfl ?_
      | refine t_ldO h 7 rfl rfl rfl ?_
      | refine t_ldO h 8 rfl rfl rfl ?_
      | refine t_ldO h 9 rfl rfl rfl ?_
      | refine t_keepB h 0 rfl rfl ?_
      | refine t_keepB h 1 rfl rfl ?_
      | refine t_keepB h 2 rfl rfl ?_
      | refine t_keepB h 3 rfl rfl ?_
      | refine t_keepB h 4 rfl rfl ?_
      | refine t_keepB h 5 rfl rfl ?_
      | refine t_keepB h 6 rfl rfl ?_
      | refine t_keepB h 7 rfl rfl ?_
      | refine t_keepB h 8 rfl rfl ?_
      | refine t_keepB h 9 rfl rfl ?_
      | (refine t_stB h 0 rfl (by simp [setL]) (by simp [Value.oneCell']) fun w h => ?_; try dsimp only [List.set, setL, List.eraseIdx, List.cons_append, List.nil_append, List.append_nil, Nat.zero_add, Nat.reduceAdd, Sl.v] at h)
      | (refine t_stB h 1 rfl (by simp [setL]) (by simp [Value.oneCell']) fun w h => ?_; try dsimp only [List.set, setL, List.eraseIdx, List.cons_append, List.nil_append, List.append_nil, Nat.zero_add, Nat.reduceAdd, Sl.v] at h)
      | (refine t_stB h 2 rfl (by simp [setL]) (by simp [Value.oneCell']) fun w h => ?_; try dsimp only [List.set, setL, List.eraseIdx, List.cons_append, List.nil_append, List.append_nil, Nat.zero_add, Nat.reduceAdd, Sl.v] at h)
      | (refine t_stB h 3 rfl (by simp [setL]) (by simp [Value.oneCell']) fun w h => ?_; try dsimp only [List.set, setL, List.eraseIdx, List.cons_append, List.nil_append, List.append_nil, Nat.zero_add, Nat.reduceAdd, Sl.v] at h)
      | (refine t_stB h 4 rfl (by simp [setL]) (by simp [Value.oneCell']) fun w h => ?_; try dsimp only [List.set, setL, List.eraseIdx, List.cons_append, List.nil_append, List.append_nil, Nat.zero_add, Nat.reduceAdd, Sl.v] at h)
      | (refine t_stB h 5 rfl (by simp [setL]) (by simp [Value.oneCell']) fun w h => ?_; try dsimp only [List.set, setL, List.eraseIdx, List.cons_append, List.nil_append, List.append_nil, Nat.zero_add, Nat.reduceAdd, Sl.v] at h)
      | (refine t_stB h 6 rfl (by simp [setL]) (by simp [Value.oneCell']) fun w h => ?_; try dsimp only [List.set, setL, List.eraseIdx, List.cons_append, List.nil_append, List.append_nil, Nat.zero_add, Nat.reduceAdd, Sl.v] at h)
      | (refine t_stB h 7 rfl (by simp [setL]) (by simp [Value.oneCell']) fun w h => ?_; try dsimp only [List.set, setL, List.eraseIdx, List.cons_append, List.nil_append, List.append_nil, Nat.zero_add, Nat.reduceAdd, Sl.v] at h)
      | (refine t_stB h 8 rfl (by simp [setL]) (by simp [Value.oneCell']) fun w h => ?_; try dsimp only [List.set, setL, List.eraseIdx, List.cons_append, List.nil_append, List.append_nil, Nat.zero_add, Nat.reduceAdd, Sl.v] at h)
      | (refine t_stB h 9 rfl (by simp [setL]) (by simp [Value.oneCell']) fun w h => ?_; try dsimp only [List.set, setL, List.eraseIdx, List.cons_append, List.nil_append, List.append_nil, Nat.zero_add, Nat.reduceAdd, Sl.v] at h)
      | refine t_newB h (by simp [Value.oneCell']) fun w b h hb => ?_
      | refine t_nil ?_
      | refine t_true rfl ?_
      | refine t_false rfl ?_
      | refine t_yes rfl ?_
      | refine t_nyes rfl ?_
      | refine t_no (by decide) ?_
      | refine t_nno (by decide) ?_
      | refine t_need (by decide) ?_)
    try dsimp only [List.set, setL, List.eraseIdx, List.cons_append, List.nil_append, List.append_nil, Nat.zero_add, Nat.reduceAdd, Sl.v] at h
    refine t_ret ⟨?_, h.weak (by repeat (first | exact Weak.refl _ | apply Weak.c0 | apply Weak.c1 | apply Weak.c2 | apply Weak.c3 | apply Weak.c4 | apply Weak.c5 | apply Weak.c6 | apply Weak.c7 | apply Weak.c8 | apply Weak.c9 | apply Weak.c10 | apply Weak.c11 | apply Weak.drop))⟩
    simp [M.spotNext, c1]; rfl
  refine t_if (fun c2 => ?_) (fun c2 => ?_)
  · repeat (first
      | refine t_tickS h fun w h => ?_
      | refine t_keepN ?_
      | refine t_ldB h 0 rfl rfl ?_
      | refine t_ldB h 1 rfl rfl ?_
      | refine t_ldB h 2 rfl rfl ?_
      | refine t_ldB h 3 rfl rfl ?_
      | refine t_ldB h 4 rfl rfl ?_
      | refine t_ldB h 5 rfl rfl ?_
      | refine t_ldB h 6 rfl rfl ?_
      | refine t_ldB h 7 rfl rfl ?_
      | refine t_ldB h 8 rfl rfl ?_
      | refine t_ldB h 9 rfl rfl ?_
      | refine t_ldO h 0 rfl rfl rfl ?_
      | refine t_ldO h 1 rfl rfl rfl ?_
      | refine t_ldO h 2 rfl rfl rfl ?_
      | refine t_ldO h 3 rfl rfl rfl ?_
      | refine t_ldO h 4 rfl rfl rfl ?_
      | refine t_ldO h 5 rfl rfl rfl ?_
      | refine t_ldO h 6 rfl rfl rfl ?_
      | refine t_ldO h 7 rfl rfl rfl ?_
      | refine t_ldO h 8 rfl rfl rfl ?_
      | refine t_ldO h 9 rfl rfl rfl ?_
      | refine t_keepB h 0 rfl rfl ?_
      | refine t_keepB h 1 rfl rfl ?_
      | refine t_keepB h 2 rfl rfl ?_
      | refine t_keepB h 3 rfl rfl ?_
      | refine t_keepB h 4 rfl rfl ?_
      | refine t_keepB h 5 rfl rfl ?_
      | refine t_keepB h 6 rfl rfl ?_
      | refine t_keepB h 7 rfl rfl ?_
      | refine t_keepB h 8 rfl rfl ?_
      | refine t_keepB h 9 rfl rfl ?_
      | (refine t_stB h 0 rfl (by simp [setL]) (by simp [Value.oneCell']) fun w h => ?_; try dsimp only [List.set, setL, List.eraseIdx, List.cons_append, List.nil_append, List.append_nil, Nat.zero_add, Nat.reduceAdd, Sl.v] at h)
      | (refine t_stB h 1 rfl (by simp [setL]) (by simp [Value.oneCell']) fun w h => ?_; try dsimp only [List.set, setL, List.eraseIdx, List.cons_append, List.nil_append, List.append_nil, Nat.zero_add, Nat.reduceAdd, Sl.v] at h)
      | (refine t_stB h 2 rfl (by simp [setL]) (by simp [Value.oneCell']) fun w h => ?_; try dsimp only [List.set, setL, List.eraseIdx, List.cons_append, List.nil_append, List.append_nil, Nat.zero_add, Nat.reduceAdd, Sl.v] at h)
      | (refine t_stB h 3 rfl (by simp [setL]) (by simp [Value.oneCell']) fun w h => ?_; try dsimp only [List.set, setL, List.eraseIdx, List.cons_append, List.nil_append, List.append_nil, Nat.zero_add, Nat.reduceAdd, Sl.v] at h)
      | (refine t_stB h 4 rfl (by simp [setL]) (by simp [Value.oneCell']) fun w h => ?_; try dsimp only [List.set, setL, List.eraseIdx, List.cons_append, List.nil_append, List.append_nil, Nat.zero_add, Nat.reduceAdd, Sl.v] at h)
      | (refine t_stB h 5 rfl (by simp [setL]) (by simp [Value.oneCell']) fun w h => ?_; try dsimp only [List.set, setL, List.eraseIdx, List.cons_append, List.nil_append, List.append_nil, Nat.zero_add, Nat.reduceAdd, Sl.v] at h)
      | (refine t_stB h 6 rfl (by simp [setL]) (by simp [Value.oneCell']) fun w h => ?_; try dsimp only [List.set, setL, List.eraseIdx, List.cons_append, List.nil_append, List.append_nil, Nat.zero_add, Nat.reduceAdd, Sl.v] at h)
      | (refine t_stB h 7 rfl (by simp [setL]) (by simp [Value.oneCell']) fun w h => ?_; try dsimp only [List.set, setL, List.eraseIdx, List.cons_append, List.nil_append, List.append_nil, Nat.zero_add, Nat.reduceAdd, Sl.v] at h)
      | (refine t_stB h 8 rfl (by simp [setL]) (by simp [Value.oneCell']) fun w h => ?_; try dsimp only [List.set, setL, List.eraseIdx, List.cons_append, List.nil_append, List.append_nil, Nat.zero_add, Nat.reduceAdd, Sl.v] at h)
      | (refine t_stB h 9 rfl (by simp [setL]) (by simp [Value.oneCell']) fun w h => ?_; try dsimp only [List.set, setL, List.eraseIdx, List.cons_append, List.nil_append, List.append_nil, Nat.zero_add, Nat.reduceAdd, Sl.v] at h)
      | refine t_newB h (by simp [Value.oneCell']) fun w b h hb => ?_
      | refine t_nil ?_
      | refine t_true rfl ?_
      | refine t_false rfl ?_
      | refine t_yes rfl ?_
      | refine t_nyes rfl ?_
      | refine t_no (by decide) ?_
      | refine t_nno (by decide) ?_
      | refine t_need (by decide) ?_)
    try dsimp only [List.set, setL, List.eraseIdx, List.cons_append, List.nil_append, List.append_nil, Nat.zero_add, Nat.reduceAdd, Sl.v] at h
    refine t_ret ⟨?_, h.weak (by repeat (first | exact Weak.refl _ | apply Weak.c0 | apply Weak.c1 | apply Weak.c2 | apply Weak.c3 | apply Weak.c4 | apply Weak.c5 | apply Weak.c6 | apply Weak.c7 | apply Weak.c8 | apply Weak.c9 | apply Weak.c10 | apply Weak.c11 | apply Weak.drop))⟩
    simp [M.spotNext, c1, c2]; rfl
  refine t_if (fun c3 => ?_) (fun c3 => ?_)
  · repeat (first
      | refine t_tickS h fun w h => ?_
      | refine t_keepN ?_
      | refine t_ldB h 0 rfl rfl ?_
      | refine t_ldB h 1 rfl rfl ?_
      | refine t_ldB h 2 rfl rfl ?_
      | refine t_ldB h 3 rfl rfl ?_
      | refine t_ldB h 4 rfl rfl ?_
      | refine t_ldB h 5 rfl rfl ?_
      | refine t_ldB h 6 rfl rfl ?_
      | refine t_ldB h 7 rfl rfl ?_
      | refine t_ldB h 8 rfl rfl ?_
      | refine t_ldB h 9 rfl rfl ?_
      | refine t_ldO h 0 rfl rfl rfl ?_
      | refine t_ldO h 1 rfl rfl rfl ?_
      | refine t_ldO h 2 rfl rfl rfl ?_
      | refine t_ldO h 3 rfl rfl rfl ?_
      | refine t_ldO h 4 rfl rfl rfl ?_
      | refine t_ldO h 5 rfl rfl rfl ?_
      | refine t_ldO h 6 rfl rfl rfl ?_
      | refine t_ldO h 7 rfl rfl rfl ?_
      | refine t_ldO h 8 rfl rfl rfl ?_
      | refine t_ldO h 9 rfl rfl rfl ?_
      | refine t_keepB h 0 rfl rfl ?_
      | refine t_keepB h 1 rfl rfl ?_
      | refine t_keepB h 2 rfl rfl ?_
      | refine t_keepB h 3 rfl rfl ?_
      | refine t_keepB h 4 rfl rfl ?_
      | refine t_keepB h 5 rfl rfl ?_
      | refine t_keepB h 6 rfl rfl ?_
      | refine t_keepB h 7 rfl rfl ?_
      | refine t_keepB h 8 rfl rfl ?_
      | refine t_keepB h 9 rfl rfl ?_
      | (refine t_stB h 0 rfl (by simp [setL]) (by simp [Value.oneCell']) fun w h => ?_; try dsimp only [List.set, setL, List.eraseIdx, List.cons_append, List.nil_append, List.append_nil, Nat.zero_add, Nat.reduceAdd, Sl.v] at h)
      | (refine t_stB h 1 rfl (by simp [setL]) (by simp [Value.oneCell']) fun w h => ?_; try dsimp only [List.set, setL, List.eraseIdx, List.cons_append, List.nil_append, List.append_nil, Nat.zero_add, Nat.reduceAdd, Sl.v] at h)
      | (refine t_stB h 2 rfl (by simp [setL]) (by simp [Value.oneCell']) fun w h => ?_; try dsimp only [List.set, setL, List.eraseIdx, List.cons_append, List.nil_append, List.append_nil, Nat.zero_add, Nat.reduceAdd, Sl.v] at h)
      | (refine t_stB h 3 rfl (by simp [setL]) (by simp [Value.oneCell']) fun w h => ?_; try dsimp only [List.set, setL, List.eraseIdx, List.cons_append, List.nil_append, List.append_nil, Nat.zero_add, Nat.reduceAdd, Sl.v] at h)
      | (refine t_stB h 4 rfl (by simp [setL]) (by simp [Value.oneCell']) fun w h => ?_; try dsimp only [List.set, setL, List.eraseIdx, List.cons_append, List.nil_append, List.append_nil, Nat.zero_add, Nat.reduceAdd, Sl.v] at h)
      | (refine t_stB h 5 rfl (by simp [setL]) (by simp [Value.oneCell']) fun w h => ?_; try dsimp only [List.set, setL, List.eraseIdx, List.cons_append, List.nil_append, List.append_nil, Nat.zero_add, Nat.reduceAdd, Sl.v] at h)
      | (refine t_stB h 6 rfl (by simp [setL]) (by simp [Value.oneCell']) fun w h => ?_; try dsimp only [List.set, setL, List.eraseIdx, List.cons_append, List.nil_append, List.append_nil, Nat.zero_add, Nat.reduceAdd, Sl.v] at h)
      | (refine t_stB h 7 rfl (by simp [setL]) (by simp [Value.oneCell']) fun w h => ?_; try dsimp only [List.set, setL, List.eraseIdx, List.cons_append, List.nil_append, List.append_nil, Nat.zero_add, Nat.reduceAdd, Sl.v] at h)
      | (refine t_stB h 8 rfl (by simp [setL]) (by simp [Value.oneCell']) fun w h => ?_; try dsimp only [List.set, setL, List.eraseIdx, List.cons_append, List.nil_append, List.append_nil, Nat.zero_add, Nat.reduceAdd, Sl.v] at h)
      | (refine t_stB h 9 rfl (by simp [setL]) (by simp [Value.oneCell']) fun w h => ?_; try dsimp only [List.set, setL, List.eraseIdx, List.cons_append, List.nil_append, List.append_nil, Nat.zero_add, Nat.reduceAdd, Sl.v] at h)
      | refine t_newB h (by simp [Value.oneCell']) fun w b h hb => ?_
      | refine t_nil ?_
      | refine t_true rfl ?_
      | refine t_false rfl ?_
      | refine t_yes rfl ?_
      | refine t_nyes rfl ?_
      | refine t_no (by decide) ?_
      | refine t_nno (by decide) ?_
      | refine t_need (by decide) ?_)
    try dsimp only [List.set, setL, List.eraseIdx, List.cons_append, List.nil_append, List.append_nil, Nat.zero_add, Nat.reduceAdd, Sl.v] at h
    refine t_ret ⟨?_, h.weak (by repeat (first | exact Weak.refl _ | apply Weak.c0 | apply Weak.c1 | apply Weak.c2 | apply Weak.c3 | apply Weak.c4 | apply Weak.c5 | apply Weak.c6 | apply Weak.c7 | apply Weak.c8 | apply Weak.c9 | apply Weak.c10 | apply Weak.c11 | apply Weak.drop))⟩
    simp [M.spotNext, c1, c2, c3]; rfl
  obtain ⟨h1, hs⟩ := spotCheck_size c1
  try dsimp only at h
  refine t_loop (fun m st w' => ∃ k : Nat, k ≤ n.toNat ∧ m = n.toNat - k ∧ st = ((k : Int), ()) ∧ St w0 W w' (blkR rb [.int .i64 0, .bool false] 44 :: blkR sb [.int .i64 (M.spotNext s k size).1.at_, .bool (M.spotNext s k size).1.wrap] 44 :: B)) n.toNat ⟨0, by omega, rfl, rfl, ?_⟩ ?_
  · rw [show ((0 : Nat) : Int) = 0 from rfl, spotNext_zero h1 hs]; exact h
  clear h
  rintro m st w ⟨k, hk, rfl, rfl, h⟩ Ks hJ _
  dsimp only
  have hin := (spotNext_in hs h1 (n := (k : Int)) (by omega)).1
  refine t_if (fun c4 => ?_) (fun c4 => ?_)
  · have hsucc := spotNext_succ h1 hs (n := (k : Int)) (by omega)
    generalize (M.spotNext s k size).1 = x at *
    repeat (first
      | refine t_tickS h fun w h => ?_
      | refine t_keepN ?_
      | refine t_ldB h 0 rfl rfl ?_
      | refine t_ldB h 1 rfl rfl ?_
      | refine t_ldB h 2 rfl rfl ?_
      | refine t_ldB h 3 rfl rfl ?_
      | refine t_ldB h 4 rfl rfl ?_
      | refine t_ldB h 5 rfl rfl ?_
      | refine t_ldB h 6 rfl rfl ?_
      | refine t_ldB h 7 rfl rfl ?_
      | refine t_ldB h 8 rfl rfl ?_
      | refine t_ldB h 9 rfl rfl ?_
      | refine t_ldO h 0 rfl rfl rfl ?_
      | refine t_ldO h 1 rfl rfl rfl ?_
      | refine t_ldO h 2 rfl rfl rfl ?_
      | refine t_ldO h 3 rfl rfl rfl ?_
      | refine t_ldO h 4 rfl rfl rfl ?_
      | refine t_ldO h 5 rfl rfl rfl ?_
      | refine t_ldO h 6 rfl rfl rfl ?_
      | refine t_ldO h 7 rfl rfl rfl ?_
      | refine t_ldO h 8 rfl rfl rfl ?_
      | refine t_ldO h 9 rfl rfl rfl ?_
      | refine t_keepB h 0 rfl rfl ?_
      | refine t_keepB h 1 rfl rfl ?_
      | refine t_keepB h 2 rfl rfl ?_
      | refine t_keepB h 3 rfl rfl ?_
      | refine t_keepB h 4 rfl rfl ?_
      | refine t_keepB h 5 rfl rfl ?_
      | refine t_keepB h 6 rfl rfl ?_
      | refine t_keepB h 7 rfl rfl ?_
      | refine t_keepB h 8 rfl rfl ?_
      | refine t_keepB h 9 rfl rfl ?_
      | (refine t_stB h 0 rfl (by simp [setL]) (by simp [Value.oneCell']) fun w h => ?_; try dsimp only [List.set, setL, List.eraseIdx, List.cons_append, List.nil_append, List.append_nil, Nat.zero_add, Nat.reduceAdd, Sl.v] at h)
      | (refine t_stB h 1 rfl (by simp [setL]) (by simp [Value.oneCell']) fun w h => ?_; try dsimp only [List.set, setL, List.eraseIdx, List.cons_append, List.nil_append, List.append_nil, Nat.zero_add, Nat.reduceAdd, Sl.v] at h)
      | (refine t_stB h 2 rfl (by simp [setL]) (by simp [Value.oneCell']) fun w h => ?_; try dsimp only [List.set, setL, List.eraseIdx, List.cons_append, List.nil_append, List.append_nil, Nat.zero_add, Nat.reduceAdd, Sl.v] at h)
      | (refine t_stB h 3 rfl (by simp [setL]) (by simp [Value.oneCell']) fun w h => ?_; try dsimp only [List.set, setL, List.eraseIdx, List.cons_append, List.nil_append, List.append_nil, Nat.zero_add, Nat.reduceAdd, Sl.v] at h)
      | (refine t_stB h 4 rfl (by simp [setL]) (by simp [Value.oneCell']) fun w h => ?_; try dsimp only [List.set, setL, List.eraseIdx, List.cons_append, List.nil_append, List.append_nil, Nat.zero_add, Nat.reduceAdd, Sl.v] at h)
      | (refine t_stB h 5 rfl (by simp [setL]) (by simp [Value.oneCell']) fun w h => ?_; try dsimp only [List.set, setL, List.eraseIdx, List.cons_append, List.nil_append, List.append_nil, Nat.zero_add, Nat.reduceAdd, Sl.v] at h)
      | (refine t_stB h 6 rfl (by simp [setL]) (by simp [Value.oneCell']) fun w h => ?_; try dsimp only [List.set, setL, List.eraseIdx, List.cons_append, List.nil_append, List.append_nil, Nat.zero_add, Nat.reduceAdd, Sl.v] at h)
      | (refine t_stB h 7 rfl (by simp [setL]) (by simp [Value.oneCell']) fun w h => ?_; try dsimp only [List.set, setL, List.eraseIdx, List.cons_append, List.nil_append, List.append_nil, Nat.zero_add, Nat.reduceAdd, Sl.v] at h)
      | (refine t_stB h 8 rfl (by simp [setL]) (by simp [Value.oneCell']) fun w h => ?_; try dsimp only [List.set, setL, List.eraseIdx, List.cons_append, List.nil_append, List.append_nil, Nat.zero_add, Nat.reduceAdd, Sl.v] at h)
      | (refine t_stB h 9 rfl (by simp [setL]) (by simp [Value.oneCell']) fun w h => ?_; try dsimp only [List.set, setL, List.eraseIdx, List.cons_append, List.nil_append, List.append_nil, Nat.zero_add, Nat.reduceAdd, Sl.v] at h)
      | refine t_newB h (by simp [Value.oneCell']) fun w b h hb => ?_
      | refine t_nil ?_
      | refine t_true rfl ?_
      | refine t_false rfl ?_
      | refine t_yes rfl ?_
      | refine t_nyes rfl ?_
      | refine t_no (by decide) ?_
      | refine t_nno (by decide) ?_
      | refine t_need (by decide) ?_)
    try dsimp only [List.set, setL, List.eraseIdx, List.cons_append, List.nil_append, List.append_nil, Nat.zero_add, Nat.reduceAdd, Sl.v] at h
    first | refine t_fn (R13_one_con x size h1 hin) h (by repeat (first | exact Sub.nil _ | apply Sub.c0 | apply Sub.c1 | apply Sub.c2 | apply Sub.c3 | apply Sub.c4 | apply Sub.c5 | apply Sub.c6 | apply Sub.c7 | apply Sub.c8 | apply Sub.c9 | apply Sub.c10 | apply Sub.c11 | exact Sub.refl _)) noRo fun w h => ?_ | refine t_fnn (R13_one_con x size h1 hin) h (by repeat (first | exact Sub.nil _ | apply Sub.c0 | apply Sub.c1 | apply Sub.c2 | apply Sub.c3 | apply Sub.c4 | apply Sub.c5 | apply Sub.c6 | apply Sub.c7 | apply Sub.c8 | apply Sub.c9 | apply Sub.c10 | apply Sub.c11 | exact Sub.refl _)) noRo fun w h => ?_
    try dsimp only [List.set, setL, List.eraseIdx, List.cons_append, List.nil_append, List.append_nil, Nat.zero_add, Nat.reduceAdd, Sl.v] at h
    repeat (first
      | refine t_tickS h fun w h => ?_
      | refine t_keepN ?_
      | refine t_ldB h 0 rfl rfl ?_
      | refine t_ldB h 1 rfl rfl ?_
      | refine t_ldB h 2 rfl rfl ?_
      | refine t_ldB h 3 rfl rfl ?_
      | refine t_ldB h 4 rfl rfl ?_
      | refine t_ldB h 5 rfl rfl ?_
      | refine t_ldB h 6 rfl rfl ?_
      | refine t_ldB h 7 rfl rfl ?_
      | refine t_ldB h 8 rfl rfl ?_
      | refine t_ldB h 9 rfl rfl ?_
      | refine t_ldO h 0 rfl rfl rfl ?_
      | refine t_ldO h 1 rfl rfl rfl ?_
      | refine t_ldO h 2 rfl rfl rfl ?_
      | refine t_ldO h 3 rfl rfl rfl ?_
      | refine t_ldO h 4 rfl rfl rfl ?_
      | refine t_ldO h 5 rfl rfl rfl ?_
      | refine t_ldO h 6 rfl rfl rfl ?_
      | refine t_ldO h 7 rfl rfl rfl ?_
      | refine t_ldO h 8 rfl rfl rfl ?_
      | refine t_ldO h 9 rfl rfl rfl ?_
      | refine t_keepB h 0 rfl rfl ?_
      | refine t_keepB h 1 rfl rfl ?_
      | refine t_keepB h 2 rfl rfl ?_
      | refine t_keepB h 3 rfl rfl ?_
      | refine t_keepB h 4 rfl rfl ?_
      | refine t_keepB h 5 rfl rfl ?_
      | refine t_keepB h 6 rfl rfl ?_
      | refine t_keepB h 7 rfl rfl ?_
      | refine t_keepB h 8 rfl rfl ?_
      | refine t_keepB h 9 rfl rfl ?_
      | (refine t_stB h 0 rfl (by simp [setL]) (by simp [Value.oneCell']) fun w h => ?_; try dsimp only [List.set, setL, List.eraseIdx, List.cons_append, List.nil_append, List.append_nil, Nat.zero_add, Nat.reduceAdd, Sl.v] at h)
      | (refine t_stB h 1 rfl (by simp [setL]) (by simp [Value.oneCell']) fun w h => ?_; try dsimp only [List.set, setL, List.eraseIdx, List.cons_append, List.nil_append, List.append_nil, Nat.zero_add, Nat.reduceAdd, Sl.v] at h)
      | (refine t_stB h 2 rfl (by simp [setL]) (by simp [Value.oneCell']) fun w h => ?_; try dsimp only [List.set, setL, List.eraseIdx, List.cons_append, List.nil_append, List.append_nil, Nat.zero_add, Nat.reduceAdd, Sl.v] at h)
      | (refine t_stB h 3 rfl (by simp [setL]) (by simp [Value.oneCell']) fun w h => ?_; try dsimp only [List.set, setL, List.eraseIdx, List.cons_append, List.nil_append, List.append_nil, Nat.zero_add, Nat.reduceAdd, Sl.v] at h)
      | (refine t_stB h 4 rfl (by simp [setL]) (by simp [Value.oneCell']) fun w h => ?_; try dsimp only [List.set, setL, List.eraseIdx, List.cons_append, List.nil_append, List.append_nil, Nat.zero_add, Nat.reduceAdd, Sl.v] at h)
      | (refine t_stB h 5 rfl (by simp [setL]) (by simp [Value.oneCell']) fun w h => ?_; try dsimp only [List.set, setL, List.eraseIdx, List.cons_append, List.nil_append, List.append_nil, Nat.zero_add, Nat.reduceAdd, Sl.v] at h)
      | (refine t_stB h 6 rfl (by simp [setL]) (by simp [Value.oneCell']) fun w h => ?_; try dsimp only [List.set, setL, List.eraseIdx, List.cons_append, List.nil_append, List.append_nil, Nat.zero_add, Nat.reduceAdd, Sl.v] at h)
      | (refine t_stB h 7 rfl (by simp [setL]) (by simp [Value.oneCell']) fun w h => ?_; try dsimp only [List.set, setL, List.eraseIdx, List.cons_append, List.nil_append, List.append_nil, Nat.zero_add, Nat.reduceAdd, Sl.v] at h)
      | (refine t_stB h 8 rfl (by simp [setL]) (by simp [Value.oneCell']) fun w h => ?_; try dsimp only [List.set, setL, List.eraseIdx, List.cons_append, List.nil_append, List.append_nil, Nat.zero_add, Nat.reduceAdd, Sl.v] at h)
      | (refine t_stB h 9 rfl (by simp [setL]) (by simp [Value.oneCell']) fun w h => ?_; try dsimp only [List.set, setL, List.eraseIdx, List.cons_append, List.nil_append, List.append_nil, Nat.zero_add, Nat.reduceAdd, Sl.v] at h)
      | refine t_newB h (by simp [Value.oneCell']) fun w b h hb => ?_
      | refine t_nil ?_
      | refine t_true rfl ?_
      | refine t_false rfl ?_
      | refine t_yes rfl ?_
      | refine t_nyes rfl ?_
      | refine t_no (by decide) ?_
      | refine t_nno (by decide) ?_
      | refine t_need (by decide) ?_)
    try dsimp only [List.set, setL, List.eraseIdx, List.cons_append, List.nil_append, List.append_nil, Nat.zero_add, Nat.reduceAdd, Sl.v] at h
    rw [w64 (n := (k : Int) + 1) (by omega)]
    refine t_next (hJ (n.toNat - (k + 1)) (((k + 1 : Nat) : Int), ()) w (by omega) ⟨k + 1, by omega, rfl, rfl, ?_⟩)
    rw [show ((k + 1 : Nat) : Int) = (k : Int) + 1 by omega, hsucc]
    exact h
  · have hke : (k : Int) = n := by omega
    rw [hke] at h
    have h0 := (spotNext_in hs h1 (n := n) (by omega)).2
    rw [h0]
    generalize (M.spotNext s n size).1 = x at *
    repeat (first
      | refine t_tickS h fun w h => ?_
      | refine t_keepN ?_
      | refine t_ldB h 0 rfl rfl ?_
      | refine t_ldB h 1 rfl rfl ?_
      | refine t_ldB h 2 rfl rfl ?_
      | refine t_ldB h 3 rfl rfl ?_
      | refine t_ldB h 4 rfl rfl ?_
      | refine t_ldB h 5 rfl rfl ?_
      | refine t_ldB h 6 rfl rfl ?_
      | refine t_ldB h 7 rfl rfl ?_
      | refine t_ldB h 8 rfl rfl ?_
      | refine t_ldB h 9 rfl rfl ?_
      | refine t_ldO h 0 rfl rfl rfl ?_
      | refine t_ldO h 1 rfl rfl rfl ?_
      | refine t_ldO h 2 rfl rfl rfl ?_
      | refine t_ldO h 3 rfl rfl rfl ?_
      | refine t_ldO h 4 rfl rfl rfl ?_
      | refine t_ldO h 5 rfl rfl rfl ?_
      | refine t_ldO h 6 rfl rfl rfl ?_
      | refine t_ldO h 7 rfl rfl rfl ?_
      | refine t_ldO h 8 rfl rfl rfl ?_
      | refine t_ldO h 9 rfl rfl rfl ?_
      | refine t_keepB h 0 rfl rfl ?_
      | refine t_keepB h 1 rfl rfl ?_
      | refine t_keepB h 2 rfl rfl ?_
      | refine t_keepB h 3 rfl rfl ?_
      | refine t_keepB h 4 rfl rfl ?_
      | refine t_keepB h 5 rfl rfl ?_
      | refine t_keepB h 6 rfl rfl ?_
      | refine t_keepB h 7 rfl rfl ?_
      | refine t_keepB h 8 rfl rfl ?_
      | refine t_keepB h 9 rfl rfl ?_
      | (refine t_stB h 0 rfl (by simp [setL]) (by simp [Value.oneCell']) fun w h => ?_; try dsimp only [List.set, setL, List.eraseIdx, List.cons_append, List.nil_append, List.append_nil, Nat.zero_add, Nat.reduceAdd, Sl.v] at h)
      | (refine t_stB h 1 rfl (by simp [setL]) (by simp [Value.oneCell']) fun w h => ?_; try dsimp only [List.set, setL, List.eraseIdx, List.cons_append, List.nil_append, List.append_nil, Nat.zero_add, Nat.reduceAdd, Sl.v] at h)
      | (refine t_stB h 2 rfl (by simp [setL]) (by simp [Value.oneCell']) fun w h => ?_; try dsimp only [List.set, setL, List.eraseIdx, List.cons_append, List.nil_append, List.append_nil, Nat.zero_add, Nat.reduceAdd, Sl.v] at h)
      | (refine t_stB h 3 rfl (by simp [setL]) (by simp [Value.oneCell']) fun w h => ?_; try dsimp only [List.set, setL, List.eraseIdx, List.cons_append, List.nil_append, List.append_nil, Nat.zero_add, Nat.reduceAdd, Sl.v] at h)
      | (refine t_stB h 4 rfl (by simp [setL]) (by simp [Value.oneCell']) fun w h => ?_; try dsimp only [List.set, setL, List.eraseIdx, List.cons_append, List.nil_append, List.append_nil, Nat.zero_add, Nat.reduceAdd, Sl.v] at h)
      | (refine t_stB h 5 rfl (by simp [setL]) (by simp [Value.oneCell']) fun w h => ?_; try dsimp only [List.set, setL, List.eraseIdx, List.cons_append, List.nil_append, List.append_nil, Nat.zero_add, Nat.reduceAdd, Sl.v] at h)
      | (refine t_stB h 6 rfl (by simp [setL]) (by simp [Value.oneCell']) fun w h => ?_; try dsimp only [List.set, setL, List.eraseIdx, List.cons_append, List.nil_append, List.append_nil, Nat.zero_add, Nat.reduceAdd, Sl.v] at h)
      | (refine t_stB h 7 rfl (by simp [setL]) (by simp [Value.oneCell']) fun w h => ?_; try dsimp only [List.set, setL, List.eraseIdx, List.cons_append, List.nil_append, List.append_nil, Nat.zero_add, Nat.reduceAdd, Sl.v] at h)
      | (refine t_stB h 8 rfl (by simp [setL]) (by simp [Value.oneCell']) fun w h => ?_; try dsimp only [List.set, setL, List.eraseIdx, List.cons_append, List.nil_append, List.append_nil, Nat.zero_add, Nat.reduceAdd, Sl.v] at h)
      | (refine t_stB h 9 rfl (by simp [setL]) (by simp [Value.oneCell']) fun w h => ?_; try dsimp only [List.set, setL, List.eraseIdx, List.cons_append, List.nil_append, List.append_nil, Nat.zero_add, Nat.reduceAdd, Sl.v] at h)
      | refine t_newB h (by simp [Value.oneCell']) fun w b h hb => ?_
      | refine t_nil ?_
      | refine t_true rfl ?_
      | refine t_false rfl ?_
      | refine t_yes rfl ?_
      | refine t_nyes rfl ?_
      | refine t_no (by decide) ?_
      | refine t_nno (by decide) ?_
      | refine t_need (by decide) ?_)
    try dsimp only [List.set, setL, List.eraseIdx, List.cons_append, List.nil_append, List.append_nil, Nat.zero_add, Nat.reduceAdd, Sl.v] at h
    exact t_ret ⟨rfl, h.weak (by repeat (first | exact Weak.refl _ | apply Weak.c0 | apply Weak.c1 | apply Weak.c2 | apply Weak.c3 | apply Weak.c4 | apply Weak.c5 | apply Weak.c6 | apply Weak.c7 | apply Weak.c8 | apply Weak.c9 | apply Weak.c10 | apply Weak.c11 | apply Weak.drop))⟩
theorem R13_Gap_con (s t : M.Spot) (size : Int) : Con Tryz.prog NoRo 72 #[Spot.v s, Spot.v t, .int .i64 size] (.tup [.I, .I]) [] ((M.spotGap s t size).1, (M.spotGap s t size).2, ()) [] := by
  intro w0 W w B _ h
  refine aqueductref13_Gap.calls (s.at_, s.wrap, ()) (t.at_, t.wrap, ()) size ?_
  unfold aqueductref13_Gap.T
  refine t_newB h (by simp [Value.oneCell']) fun w sb h hsb => ?_
  refine t_newB h (by simp [Value.oneCell']) fun w tb h htb => ?_
  repeat (first
    | refine t_tickS h fun w h => ?_
    | refine t_keepN ?_
    | refine t_ldB h 0 rfl rfl ?_
    | refine t_ldB h 1 rfl rfl ?_
    | refine t_ldB h 2 rfl rfl ?_
    | refine t_ldB h 3 rfl rfl ?_
    | refine t_ldB h 4 rfl rfl ?_
    | refine t_ldB h 5 rfl rfl ?_
    | refine t_ldB h 6 rfl rfl ?_
    | refine t_ldB h 7 rfl rfl ?_
    | refine t_ldB h 8 rfl rfl ?_
    | refine t_ldB h 9 rfl rfl ?_
    | refine t_ldO h 0 rfl rfl rfl ?_
    | refine t_ldO h 1 rfl rfl rfl ?_
    | refine t_ldO h 2 rfl rfl rfl ?_
    | refine t_ldO h 3 rfl rfl rfl ?_
    | refine t_ldO h 4 rfl rfl rfl ?_
    | refine t_ldO h 5 rfl rfl rfl ?_
    | refine t_ldO h 6 rfl rfl rfl ?_
    | refine t_ldO h 7 rfl rfl rfl ?_
    | refine t_ldO h 8 rfl rfl rfl ?_
    | refine t_ldO h 9 rfl rfl rfl ?_
    | refine t_keepB h 0 rfl rfl ?_
    | refine t_keepB h 1 rfl rfl ?_
    | refine t_keepB h 2 rfl rfl ?_
    | refine t_keepB h 3 rfl rfl ?_
    | refine t_keepB h 4 rfl rfl ?_
    | refine t_keepB h 5 rfl rfl ?_
    | refine t_keepB h 6 rfl rfl ?_
    | refine t_keepB h 7 rfl rfl ?_
    | refine t_keepB h 8 rfl rfl ?_
    | refine t_keepB h 9 rfl rfl ?_
    | (refine t_stB h 0 rfl (by simp [setL]) (by simp [Value.oneCell']) fun w h => ?_; try dsimp only [List.set, setL, List.eraseIdx, List.cons_append, List.nil_append, List.append_nil, Nat.zero_add, Nat.reduceAdd, Sl.v] at h)
    | (refine t_stB h 1 rfl (by simp [setL]) (by simp [Value.oneCell']) fun w h => ?_; try dsimp only [List.set, setL, List.eraseIdx, List.cons_append, List.nil_append, List.append_nil, Nat.zero_add, Nat.reduceAdd, Sl.v] at h)
    | (refine t_stB h 2 rfl (by simp [setL]) (by simp [Value.oneCell']) fun w h => ?_; try dsimp only [List.set, setL, List.eraseIdx, List.cons_append, List.nil_append, List.append_nil, Nat.zero_add, Nat.reduceAdd, Sl.v] at h)
    | (refine t_stB h 3 rfl (by simp [setL]) (by simp [Value.oneCell']) fun w h => ?_; try dsimp only [List.set, setL, List.eraseIdx, List.cons_append, List.nil_append, List.append_nil, Nat.zero_add, Nat.reduceAdd, Sl.v] at h)
    | (refine t_stB h 4 rfl (by simp [setL]) (by simp [Value.oneCell']) fun w h => ?_; try dsimp only [List.set, setL, List.eraseIdx, List.cons_append, List.nil_append, List.append_nil, Nat.zero_add, Nat.reduceAdd, Sl.v] at h)
    | (refine t_stB h 5 rfl (by simp [setL]) (by simp [Value.oneCell']) fun w h => ?_; try dsimp only [List.set, setL, List.eraseIdx, List.cons_append, List.nil_append, List.append_nil, Nat.zero_add, Nat.reduceAdd, Sl.v] at h)
    | (refine t_stB h 6 rfl (by simp [setL]) (by simp [Value.oneCell']) fun w h => ?_; try dsimp only [List.set, setL, List.eraseIdx, List.cons_append, List.nil_append, List.append_nil, Nat.zero_add, Nat.reduceAdd, Sl.v] at h)
    | (refine t_stB h 7 rfl (by simp [setL]) (by simp [Value.oneCell']) fun w h => ?_; try dsimp only [List.set, setL, List.eraseIdx, List.cons_append, List.nil_append, List.append_nil, Nat.zero_add, Nat.reduceAdd, Sl.v] at h)
    | (refine t_stB h 8 rfl (by simp [setL]) (by simp [Value.oneCell']) fun w h => ?_; try dsimp only [List.set, setL, List.eraseIdx, List.cons_append, List.nil_append, List.append_nil, Nat.zero_add, Nat.reduceAdd, Sl.v] at h)
    | (refine t_stB h 9 rfl (by simp [setL]) (by simp [Value.oneCell']) fun w h => ?_; try dsimp only [List.set, setL, List.eraseIdx, List.cons_append, List.nil_append, List.append_nil, Nat.zero_add, Nat.reduceAdd, Sl.v] at h)
    | refine t_newB h (by simp [Value.oneCell']) fun w b h hb => ?_
    | refine t_nil ?_
    | refine t_true rfl ?_
    | refine t_false rfl ?_
    | refine t_yes rfl ?_
    | refine t_nyes rfl ?_
    | refine t_no (by decide) ?_
    | refine t_nno (by decide) ?_
    | refine t_need (by decide) ?_)
  try dsimp only [List.set, setL, List.eraseIdx, List.cons_append, List.nil_append, List.append_nil, Nat.zero_add, Nat.reduceAdd, Sl.v] at h
  first | refine t_fn (R13_Check_con s size) h (by repeat (first | exact Sub.nil _ | apply Sub.c0 | apply Sub.c1 | apply Sub.c2 | apply Sub.c3 | apply Sub.c4 | apply Sub.c5 | apply Sub.c6 | apply Sub.c7 | apply Sub.c8 | apply Sub.c9 | apply Sub.c10 | apply Sub.c11 | exact Sub.refl _)) noRo fun w h => ?_ | refine t_fnn (R13_Check_con s size) h (by repeat (first | exact Sub.nil _ | apply Sub.c0 | apply Sub.c1 | apply Sub.c2 | apply Sub.c3 | apply Sub.c4 | apply Sub.c5 | apply Sub.c6 | apply Sub.c7 | apply Sub.c8 | apply Sub.c9 | apply Sub.c10 | apply Sub.c11 | exact Sub.refl _)) noRo fun w h => ?_
  try dsimp only [List.set, setL, List.eraseIdx, List.cons_append, List.nil_append, List.append_nil, Nat.zero_add, Nat.reduceAdd, Sl.v] at h
  refine t_ifn (fun c1 => t_ret ⟨?_, h.weak (by repeat (first | exact Weak.refl _ | apply Weak.c0 | apply Weak.c1 | apply Weak.c2 | apply Weak.c3 | apply Weak.c4 | apply Weak.c5 | apply Weak.c6 | apply Weak.c7 | apply Weak.c8 | apply Weak.c9 | apply Weak.c10 | apply Weak.c11 | apply Weak.drop))⟩) (fun c1 => ?_)
  · simp [M.spotGap, c1]; rfl
  repeat (first
    | refine t_tickS h fun w h => ?_
    | refine t_keepN ?_
    | refine t_ldB h 0 rfl rfl ?_
    | refine t_ldB h 1 rfl rfl ?_
    | refine t_ldB h 2 rfl rfl ?_
    | refine t_ldB h 3 rfl rfl ?_
    | refine t_ldB h 4 rfl rfl ?_
    | refine t_ldB h 5 rfl rfl ?_
    | refine t_ldB h 6 rfl rfl ?_
    | refine t_ldB h 7 rfl rfl ?_
    | refine t_ldB h 8 rfl rfl ?_
    | refine t_ldB h 9 rfl rfl ?_
    | refine t_ldO h 0 rfl rfl rfl ?_
    | refine t_ldO h 1 rfl rfl rfl ?_
    | refine t_ldO h 2 rfl rfl rfl ?_
    | refine t_ldO h 3 rfl rfl rfl ?_
    | refine t_ldO h 4 rfl rfl rfl ?_
    | refine t_ldO h 5 rfl rfl rfl ?_
    | refine t_ldO h 6 rfl rfl rfl ?_
    | refine t_ldO h 7 rfl rfl rfl ?_
    | refine t_ldO h 8 rfl rfl rfl ?_
    | refine t_ldO h 9 rfl rfl rfl ?_
    | refine t_keepB h 0 rfl rfl ?_
    | refine t_keepB h 1 rfl rfl ?_
    | refine t_keepB h 2 rfl rfl ?_
    | refine t_keepB h 3 rfl rfl ?_
    | refine t_keepB h 4 rfl rfl ?_
    | refine t_keepB h 5 rfl rfl ?_
    | refine t_keepB h 6 rfl rfl ?_
    | refine t_keepB h 7 rfl rfl ?_
    | refine t_keepB h 8 rfl rfl ?_
    | refine t_keepB h 9 rfl rfl ?_
    | (refine t_stB h 0 rfl (by simp [setL]) (by simp [Value.oneCell']) fun w h => ?_; try dsimp only [List.set, setL, List.eraseIdx, List.cons_append, List.nil_append, List.append_nil, Nat.zero_add, Nat.reduceAdd, Sl.v] at h)
    | (refine t_stB h 1 rfl (by simp [setL]) (by simp [Value.oneCell']) fun w h => ?_; try dsimp only [List.set, setL, List.eraseIdx, List.cons_append, List.nil_append, List.append_nil, Nat.zero_add, Nat.reduceAdd, Sl.v] at h)
    | (refine t_stB h 2 rfl (by simp [setL]) (by simp [Value.oneCell']) fun w h => ?_; try dsimp only [List.set, setL, List.eraseIdx, List.cons_append, List.nil_append, List.append_nil, Nat.zero_add, Nat.reduceAdd, Sl.v] at h)
    | (refine t_stB h 3 rfl (by simp [setL]) (by simp [Value.oneCell']) fun w h => ?_; try dsimp only [List.set, setL, List.eraseIdx, List.cons_append, List.nil_append, List.append_nil, Nat.zero_add, Nat.reduceAdd, Sl.v] at h)
    | (refine t_stB h 4 rfl (by simp [setL]) (by simp [Value.oneCell']) fun w h => ?_; try dsimp only [List.set, setL, List.eraseIdx, List.cons_append, List.nil_append, List.append_nil, Nat.zero_add, Nat.reduceAdd, Sl.v] at h)
    | (refine t_stB h 5 rfl (by simp [setL]) (by simp [Value.oneCell']) fun w h => ?_; try dsimp only [List.set, setL, List.eraseIdx, List.cons_append, List.nil_append, List.append_nil, Nat.zero_add, Nat.reduceAdd, Sl.v] at h)
    | (refine t_stB h 6 rfl (by simp [setL]) (by simp [Value.oneCell']) fun w h => ?_; try dsimp only [List.set, setL, List.eraseIdx, List.cons_append, List.nil_append, List.append_nil, Nat.zero_add, Nat.reduceAdd, Sl.v] at h)
    | (refine t_stB h 7 rfl (by simp [setL]) (by simp [Value.oneCell']) fun w h => ?_; try dsimp only [List.set, setL, List.eraseIdx, List.cons_append, List.nil_append, List.append_nil, Nat.zero_add, Nat.reduceAdd, Sl.v] at h)
    | (refine t_stB h 8 rfl (by simp [setL]) (by simp [Value.oneCell']) fun w h => ?_; try dsimp only [List.set, setL, List.eraseIdx, List.cons_append, List.nil_append, List.append_nil, Nat.zero_add, Nat.reduceAdd, Sl.v] at h)
    | (refine t_stB h 9 rfl (by simp [setL]) (by simp [Value.oneCell']) fun w h => ?_; try dsimp only [List.set, setL, List.eraseIdx, List.cons_append, List.nil_append, List.append_nil, Nat.zero_add, Nat.reduceAdd, Sl.v] at h)
    | refine t_newB h (by simp [Value.oneCell']) fun w b h hb => ?_
    | refine t_nil ?_
    | refine t_true rfl ?_
    | refine t_false rfl ?_
    | refine t_yes rfl ?_
    | refine t_nyes rfl ?_
    | refine t_no (by decide) ?_
    | refine t_nno (by decide) ?_
    | refine t_need (by decide) ?_)
  try dsimp only [List.set, setL, List.eraseIdx, List.cons_append, List.nil_append, List.append_nil, Nat.zero_add, Nat.reduceAdd, Sl.v] at h
  first | refine t_fn (R13_Check_con t size) h (by repeat (first | exact Sub.nil _ | apply Sub.c0 | apply Sub.c1 | apply Sub.c2 | apply Sub.c3 | apply Sub.c4 | apply Sub.c5 | apply Sub.c6 | apply Sub.c7 | apply Sub.c8 | apply Sub.c9 | apply Sub.c10 | apply Sub.c11 | exact Sub.refl _)) noRo fun w h => ?_ | refine t_fnn (R13_Check_con t size) h (by repeat (first | exact Sub.nil _ | apply Sub.c0 | apply Sub.c1 | apply Sub.c2 | apply Sub.c3 | apply Sub.c4 | apply Sub.c5 | apply Sub.c6 | apply Sub.c7 | apply Sub.c8 | apply Sub.c9 | apply Sub.c10 | apply Sub.c11 | exact Sub.refl _)) noRo fun w h => ?_
  try dsimp only [List.set, setL, List.eraseIdx, List.cons_append, List.nil_append, List.append_nil, Nat.zero_add, Nat.reduceAdd, Sl.v] at h
  refine t_ifn (fun c2 => t_ret ⟨?_, h.weak (by repeat (first | exact Weak.refl _ | apply Weak.c0 | apply Weak.c1 | apply Weak.c2 | apply Weak.c3 | apply Weak.c4 | apply Weak.c5 | apply Weak.c6 | apply Weak.c7 | apply Weak.c8 | apply Weak.c9 | apply Weak.c10 | apply Weak.c11 | apply Weak.drop))⟩) (fun c2 => ?_)
  · simp [M.spotGap, c1, c2]; rfl
  obtain ⟨h1, hs⟩ := spotCheck_size c1
  have ht := (spotCheck_size c2).2
  rw [spotGap_ok h1 hs ht]
  have hr := gapN_range h1.1 hs ht
  try dsimp only at h
  refine t_loop (fun m st w' => ∃ (k : Nat) (x : M.Spot), (k : Int) ≤ M.gapN s t size ∧ m = (M.gapN s t size).toNat - k ∧ st = ((k : Int), ()) ∧ x.In size ∧ M.gapN x t size = M.gapN s t size - k ∧ St w0 W w' (blkR tb [.int .i64 t.at_, .bool t.wrap] 44 :: blkR sb [.int .i64 x.at_, .bool x.wrap] 44 :: B)) (M.gapN s t size).toNat ⟨0, s, by omega, rfl, rfl, hs, by omega, h⟩ ?_
  clear h
  rintro m st w ⟨k, x, hk, rfl, rfl, hx, hg, h⟩ Ks hJ _
  dsimp only
  repeat (first
    | refine t_tickS h fun w h => ?_
    | refine t_keepN ?_
    | refine t_ldB h 0 rfl rfl ?_
    | refine t_ldB h 1 rfl rfl ?_
    | refine t_ldB h 2 rfl rfl ?_
    | refine t_ldB h 3 rfl rfl ?_
    | refine t_ldB h 4 rfl rfl ?_
    | refine t_ldB h 5 rfl rfl ?_
    | refine t_ldB h 6 rfl rfl ?_
    | refine t_ldB h 7 rfl rfl ?_
    | refine t_ldB h 8 rfl rfl ?_
    | refine t_ldB h 9 rfl rfl ?_
    | refine t_ldO h 0 rfl rfl rfl ?_
    | refine t_ldO h 1 rfl rfl rfl ?_
    | refine t_ldO h 2 rfl rfl rfl ?_
    | refine t_ldO h 3 rfl rfl rfl ?_
    | refine t_ldO h 4 rfl rfl rfl ?_
    | refine t_ldO h 5 rfl rfl rfl ?_
    | refine t_ldO h 6 rfl rfl rfl ?_
    | refine t_ldO h 7 rfl rfl rfl ?_
    | refine t_ldO h 8 rfl rfl rfl ?_
    | refine t_ldO h 9 rfl rfl rfl ?_
    | refine t_keepB h 0 rfl rfl ?_
    | refine t_keepB h 1 rfl rfl ?_
    | refine t_keepB h 2 rfl rfl ?_
    | refine t_keepB h 3 rfl rfl ?_
    | refine t_keepB h 4 rfl rfl ?_
    | refine t_keepB h 5 rfl rfl ?_
    | refine t_keepB h 6 rfl rfl ?_
    | refine t_keepB h 7 rfl rfl ?_
    | refine t_keepB h 8 rfl rfl ?_
    | refine t_keepB h 9 rfl rfl ?_
    | (refine t_stB h 0 rfl (by simp [setL]) (by simp [Value.oneCell']) fun w h => ?_; try dsimp only [List.set, setL, List.eraseIdx, List.cons_append, List.nil_append, List.append_nil, Nat.zero_add, Nat.reduceAdd, Sl.v] at h)
    | (refine t_stB h 1 rfl (by simp [setL]) (by simp [Value.oneCell']) fun w h => ?_; try dsimp only [List.set, setL, List.eraseIdx, List.cons_append, List.nil_append, List.append_nil, Nat.zero_add, Nat.reduceAdd, Sl.v] at h)
    | (refine t_stB h 2 rfl (by simp [setL]) (by simp [Value.oneCell']) fun w h => ?_; try dsimp only [List.set, setL, List.eraseIdx, List.cons_append, List.nil_append, List.append_nil, Nat.zero_add, Nat.reduceAdd, Sl.v] at h)
    | (refine t_stB h 3 rfl (by simp [setL]) (by simp [Value.oneCell']) fun w h => ?_; try dsimp only [List.set, setL, List.eraseIdx, List.cons_append, List.nil_append, List.append_nil, Nat.zero_add, Nat.reduceAdd, Sl.v] at h)
    | (refine t_stB h 4 rfl (by simp [setL]) (by simp [Value.oneCell']) fun w h => ?_; try dsimp only [List.set, setL, List.eraseIdx, List.cons_append, List.nil_append, List.append_nil, Nat.zero_add, Nat.reduceAdd, Sl.v] at h)
    | (refine t_stB h 5 rfl (by simp [setL]) (by simp [Value.oneCell']) fun w h => ?_; try dsimp only [List.set, setL, List.eraseIdx, List.cons_append, List.nil_append, List.append_nil, Nat.zero_add, Nat.reduceAdd, Sl.v] at h)
    | (refine t_stB h 6 rfl (by simp [setL]) (by simp [Value.oneCell']) fun w h => ?_; try dsimp only [List.set, setL, List.eraseIdx, List.cons_append, List.nil_append, List.append_nil, Nat.zero_add, Nat.reduceAdd, Sl.v] at h)
    | (refine t_stB h 7 rfl (by simp [setL]) (by simp [Value.oneCell']) fun w h => ?_; try dsimp only [List.set, setL, List.eraseIdx, List.cons_append, List.nil_append, List.append_nil, Nat.zero_add, Nat.reduceAdd, Sl.v] at h)
    | (refine t_stB h 8 rfl (by simp [setL]) (by simp [Value.oneCell']) fun w h => ?_; try dsimp only [List.set, setL, List.eraseIdx, List.cons_append, List.nil_append, List.append_nil, Nat.zero_add, Nat.reduceAdd, Sl.v] at h)
    | (refine t_stB h 9 rfl (by simp [setL]) (by simp [Value.oneCell']) fun w h => ?_; try dsimp only [List.set, setL, List.eraseIdx, List.cons_append, List.nil_append, List.append_nil, Nat.zero_add, Nat.reduceAdd, Sl.v] at h)
    | refine t_newB h (by simp [Value.oneCell']) fun w b h hb => ?_
    | refine t_nil ?_
    | refine t_true rfl ?_
    | refine t_false rfl ?_
    | refine t_yes rfl ?_
    | refine t_nyes rfl ?_
    | refine t_no (by decide) ?_
    | refine t_nno (by decide) ?_
    | refine t_need (by decide) ?_)
  try dsimp only [List.set, setL, List.eraseIdx, List.cons_append, List.nil_append, List.append_nil, Nat.zero_add, Nat.reduceAdd, Sl.v] at h
  refine t_neS (l := [.I, .bool]) (x.at_, x.wrap, ()) (t.at_, t.wrap, ()) flatSpot ?_
  rw [eqSpot]
  refine t_ifn (fun c => ?_) (fun c => ?_)
  · have h2 := gapN_one h1.1 hx ht c
    have h3 := gapN_range h1.1 (one_in hx) ht
    repeat (first
      | refine t_tickS h fun w h => ?_
      | refine t_keepN ?_
      | refine t_ldB h 0 rfl rfl ?_
      | refine t_ldB h 1 rfl rfl ?_
      | refine t_ldB h 2 rfl rfl ?_
      | refine t_ldB h 3 rfl rfl ?_
      | refine t_ldB h 4 rfl rfl ?_
      | refine t_ldB h 5 rfl rfl ?_
      | refine t_ldB h 6 rfl rfl ?_
      | refine t_ldB h 7 rfl rfl ?_
      | refine t_ldB h 8 rfl rfl ?_
      | refine t_ldB h 9 rfl rfl ?_
      | refine t_ldO h 0 rfl rfl rfl ?_
      | refine t_ldO h 1 rfl rfl rfl ?_
      | refine t_ldO h 2 rfl rfl rfl ?_
      | refine t_ldO h 3 rfl rfl rfl ?_
      | refine t_ldO h 4 rfl rfl rfl ?_
      | refine t_ldO h 5 rfl rfl rfl ?_
      | refine t_ldO h 6 rfl rfl rfl ?_
      | refine t_ldO h 7 rfl rfl rfl ?_
      | refine t_ldO h 8 rfl rfl rfl ?_
      | refine t_ldO h 9 rfl rfl rfl ?_
      | refine t_keepB h 0 rfl rfl ?_
      | refine t_keepB h 1 rfl rfl ?_
      | refine t_keepB h 2 rfl rfl ?_
      | refine t_keepB h 3 rfl rfl ?_
      | refine t_keepB h 4 rfl rfl ?_
      | refine t_keepB h 5 rfl rfl ?_
      | refine t_keepB h 6 rfl rfl ?_
      | refine t_keepB h 7 rfl rfl ?_
      | refine t_keepB h 8 rfl rfl ?_
      | refine t_keepB h 9 rfl rfl ?_
      | (refine t_stB h 0 rfl (by simp [setL]) (by simp [Value.oneCell']) fun w h => ?_; try dsimp only [List.set, setL, List.eraseIdx, List.cons_append, List.nil_append, List.append_nil, Nat.zero_add, Nat.reduceAdd, Sl.v] at h)
      | (refine t_stB h 1 rfl (by simp [setL]) (by simp [Value.oneCell']) fun w h => ?_; try dsimp only [List.set, setL, List.eraseIdx, List.cons_append, List.nil_append, List.append_nil, Nat.zero_add, Nat.reduceAdd, Sl.v] at h)
      | (refine t_stB h 2 rfl (by simp [setL]) (by simp [Value.oneCell']) fun w h => ?_; try dsimp only [List.set, setL, List.eraseIdx, List.cons_append, List.nil_append, List.append_nil, Nat.zero_add, Nat.reduceAdd, Sl.v] at h)
      | (refine t_stB h 3 rfl (by simp [setL]) (by simp [Value.oneCell']) fun w h => ?_; try dsimp only [List.set, setL, List.eraseIdx, List.cons_append, List.nil_append, List.append_nil, Nat.zero_add, Nat.reduceAdd, Sl.v] at h)
      | (refine t_stB h 4 rfl (by simp [setL]) (by simp [Value.oneCell']) fun w h => ?_; try dsimp only [List.set, setL, List.eraseIdx, List.cons_append, List.nil_append, List.append_nil, Nat.zero_add, Nat.reduceAdd, Sl.v] at h)
      | (refine t_stB h 5 rfl (by simp [setL]) (by simp [Value.oneCell']) fun w h => ?_; try dsimp only [List.set, setL, List.eraseIdx, List.cons_append, List.nil_append, List.append_nil, Nat.zero_add, Nat.reduceAdd, Sl.v] at h)
      | (refine t_stB h 6 rfl (by simp [setL]) (by simp [Value.oneCell']) fun w h => ?_; try dsimp only [List.set, setL, List.eraseIdx, List.cons_append, List.nil_append, List.append_nil, Nat.zero_add, Nat.reduceAdd, Sl.v] at h)
      | (refine t_stB h 7 rfl (by simp [setL]) (by simp [Value.oneCell']) fun w h => ?_; try dsimp only [List.set, setL, List.eraseIdx, List.cons_append, List.nil_append, List.append_nil, Nat.zero_add, Nat.reduceAdd, Sl.v] at h)
      | (refine t_stB h 8 rfl (by simp [setL]) (by simp [Value.oneCell']) fun w h => ?_; try dsimp only [List.set, setL, List.eraseIdx, List.cons_append, List.nil_append, List.append_nil, Nat.zero_add, Nat.reduceAdd, Sl.v] at h)
      | (refine t_stB h 9 rfl (by simp [setL]) (by simp [Value.oneCell']) fun w h => ?_; try dsimp only [List.set, setL, List.eraseIdx, List.cons_append, List.nil_append, List.append_nil, Nat.zero_add, Nat.reduceAdd, Sl.v] at h)
      | refine t_newB h (by simp [Value.oneCell']) fun w b h hb => ?_
      | refine t_nil ?_
      | refine t_true rfl ?_
      | refine t_false rfl ?_
      | refine t_yes rfl ?_
      | refine t_nyes rfl ?_
      | refine t_no (by decide) ?_
      | refine t_nno (by decide) ?_
      | refine t_need (by decide) ?_)
    try dsimp only [List.set, setL, List.eraseIdx, List.cons_append, List.nil_append, List.append_nil, Nat.zero_add, Nat.reduceAdd, Sl.v] at h
    first | refine t_fn (R13_one_con x size h1 hx) h (by repeat (first | exact Sub.nil _ | apply Sub.c0 | apply Sub.c1 | apply Sub.c2 | apply Sub.c3 | apply Sub.c4 | apply Sub.c5 | apply Sub.c6 | apply Sub.c7 | apply Sub.c8 | apply Sub.c9 | apply Sub.c10 | apply Sub.c11 | exact Sub.refl _)) noRo fun w h => ?_ | refine t_fnn (R13_one_con x size h1 hx) h (by repeat (first | exact Sub.nil _ | apply Sub.c0 | apply Sub.c1 | apply Sub.c2 | apply Sub.c3 | apply Sub.c4 | apply Sub.c5 | apply Sub.c6 | apply Sub.c7 | apply Sub.c8 | apply Sub.c9 | apply Sub.c10 | apply Sub.c11 | exact Sub.refl _)) noRo fun w h => ?_
    try dsimp only [List.set, setL, List.eraseIdx, List.cons_append, List.nil_append, List.append_nil, Nat.zero_add, Nat.reduceAdd, Sl.v] at h
    repeat (first
      | refine t_tickS h fun w h => ?_
      | refine t_keepN ?_
      | refine t_ldB h 0 rfl rfl ?_
      | refine t_ldB h 1 rfl rfl ?_
      | refine t_ldB h 2 rfl rfl ?_
      | refine t_ldB h 3 rfl rfl ?_
      | refine t_ldB h 4 rfl rfl ?_
      | refine t_ldB h 5 rfl rfl ?_
      | refine t_ldB h 6 rfl rfl ?_
      | refine t_ldB h 7 rfl rfl ?_
      | refine t_ldB h 8 rfl rfl ?_
      | refine t_ldB h 9 rfl rfl ?_
      | refine t_ldO h 0 rfl rfl rfl ?_
      | refine t_ldO h 1 rfl rfl rfl ?_
      | refine t_ldO h 2 rfl rfl rfl ?_
      | refine t_ldO h 3 rfl rfl rfl ?_
      | refine t_ldO h 4 rfl rfl rfl ?_
      | refine t_ldO h 5 rfl rfl rfl ?_
      | refine t_ldO h 6 rfl rfl rfl ?_
      | refine t_ldO h 7 rfl rfl rfl ?_
      | refine t_ldO h 8 rfl rfl rfl ?_
      | refine t_ldO h 9 rfl rfl rfl ?_
      | refine t_keepB h 0 rfl rfl ?_
      | refine t_keepB h 1 rfl rfl ?_
      | refine t_keepB h 2 rfl rfl ?_
      | refine t_keepB h 3 rfl rfl ?_
      | refine t_keepB h 4 rfl rfl ?_
      | refine t_keepB h 5 rfl rfl ?_
      | refine t_keepB h 6 rfl rfl ?_
      | refine t_keepB h 7 rfl rfl ?_
      | refine t_keepB h 8 rfl rfl ?_
      | refine t_keepB h 9 rfl rfl ?_
      | (refine t_stB h 0 rfl (by simp [setL]) (by simp [Value.oneCell']) fun w h => ?_; try dsimp only [List.set, setL, List.eraseIdx, List.cons_append, List.nil_append, List.append_nil, Nat.zero_add, Nat.reduceAdd, Sl.v] at h)
      | (refine t_stB h 1 rfl (by simp [setL]) (by simp [Value.oneCell']) fun w h => ?_; try dsimp only [List.set, setL, List.eraseIdx, List.cons_append, List.nil_append, List.append_nil, Nat.zero_add, Nat.reduceAdd, Sl.v] at h)
      | (refine t_stB h 2 rfl (by simp [setL]) (by simp [Value.oneCell']) fun w h => ?_; try dsimp only [List.set, setL, List.eraseIdx, List.cons_append, List.nil_append, List.append_nil, Nat.zero_add, Nat.reduceAdd, Sl.v] at h)
      | (refine t_stB h 3 rfl (by simp [setL]) (by simp [Value.oneCell']) fun w h => ?_; try dsimp only [List.set, setL, List.eraseIdx, List.cons_append, List.nil_append, List.append_nil, Nat.zero_add, Nat.reduceAdd, Sl.v] at h)
      | (refine t_stB h 4 rfl (by simp [setL]) (by simp [Value.oneCell']) fun w h => ?_; try dsimp only [List.set, setL, List.eraseIdx, List.cons_append, List.nil_append, List.append_nil, Nat.zero_add, Nat.reduceAdd, Sl.v] at h)
      | (refine t_stB h 5 rfl (by simp [setL]) (by simp [Value.oneCell']) fun w h => ?_; try dsimp only [List.set, setL, List.eraseIdx, List.cons_append, List.nil_append, List.append_nil, Nat.zero_add, Nat.reduceAdd, Sl.v] at h)
      | (refine t_stB h 6 rfl (by simp [setL]) (by simp [Value.oneCell']) fun w h => ?_; try dsimp only [List.set, setL, List.eraseIdx, List.cons_append, List.nil_append, List.append_nil, Nat.zero_add, Nat.reduceAdd, Sl.v] at h)
      | (refine t_stB h 7 rfl (by simp [setL]) (by simp [Value.oneCell']) fun w h => ?_; try dsimp only [List.set, setL, List.eraseIdx, List.cons_append, List.nil_append, List.append_nil, Nat.zero_add, Nat.reduceAdd, Sl.v] at h)
      | (refine t_stB h 8 rfl (by simp [setL]) (by simp [Value.oneCell']) fun w h => ?_; try dsimp only [List.set, setL, List.eraseIdx, List.cons_append, List.nil_append, List.append_nil, Nat.zero_add, Nat.reduceAdd, Sl.v] at h)
      | (refine t_stB h 9 rfl (by simp [setL]) (by simp [Value.oneCell']) fun w h => ?_; try dsimp only [List.set, setL, List.eraseIdx, List.cons_append, List.nil_append, List.append_nil, Nat.zero_add, Nat.reduceAdd, Sl.v] at h)
      | refine t_newB h (by simp [Value.oneCell']) fun w b h hb => ?_
      | refine t_nil ?_
      | refine t_true rfl ?_
      | refine t_false rfl ?_
      | refine t_yes rfl ?_
      | refine t_nyes rfl ?_
      | refine t_no (by decide) ?_
      | refine t_nno (by decide) ?_
      | refine t_need (by decide) ?_)
    try dsimp only [List.set, setL, List.eraseIdx, List.cons_append, List.nil_append, List.append_nil, Nat.zero_add, Nat.reduceAdd, Sl.v] at h
    rw [w64 (n := (k : Int) + 1) (by omega)]
    exact t_next (hJ ((M.gapN s t size).toNat - (k + 1)) (((k + 1 : Nat) : Int), ()) w (by omega) ⟨k + 1, M.spotOne x size, by omega, rfl, rfl, one_in hx, by omega, h⟩)
  · subst c
    have := (gapN_zero h1.1 hx ht).2 rfl
    refine t_ret ⟨?_, h.weak (by repeat (first | exact Weak.refl _ | apply Weak.c0 | apply Weak.c1 | apply Weak.c2 | apply Weak.c3 | apply Weak.c4 | apply Weak.c5 | apply Weak.c6 | apply Weak.c7 | apply Weak.c8 | apply Weak.c9 | apply Weak.c10 | apply Weak.c11 | apply Weak.drop))⟩
    rw [show (k : Int) = M.gapN s x size by omega]
    rfl
theorem bytes4 (l : List UInt8) (h : l.length = 4) : ∃ a b c d, l = [a, b, c, d] := by
  match l, h with
  | [a, b, c, d], _ => exact ⟨a, b, c, d, rfl⟩
theorem leI_two (a b : UInt8) : M.leI [a, b] = (a.toNat : Int) + 256 * b.toNat := by
  simp [M.leI, M.beN]; omega
theorem R13_Parse_con (l : List UInt8) (hl : l.length = 4) : Con Tryz.prog NoRo 46 #[.string (mkB l)] (.tup [.agg [.I, .bool, .I], .I]) [] (((M.evOf l).off, (M.evOf l).wrap, (M.evOf l).fl, ()), 0, ()) [] := by
  intro w0 W w B _ h
  refine aqueductref13_Parse.calls (mkB l) ?_
  unfold aqueductref13_Parse.T
  have l1 := leI_lt (l.take 2) 2 (by simp; omega) (by omega)
  have l2 := leI_lt ((l.drop 2).take 2) 2 (by simp; omega) (by omega)
  obtain ⟨a, b, c, d, rfl⟩ := bytes4 l hl
  have e1 : (M.leI ([a, b, c, d].take 2)) = (a.toNat : Int) + 256 * b.toNat := leI_two a b
  have e2 : (M.leI (([a, b, c, d].drop 2).take 2)) = (c.toNat : Int) + 256 * d.toNat := leI_two c d
  have g0 : bt (mkB [a, b, c, d]) 0 = a.toNat := by rw [bt_eq, bl_mkB]; rfl
  have g1 : bt (mkB [a, b, c, d]) 1 = b.toNat := by rw [bt_eq, bl_mkB]; rfl
  have g2 : bt (mkB [a, b, c, d]) 2 = c.toNat := by rw [bt_eq, bl_mkB]; rfl
  have g3 : bt (mkB [a, b, c, d]) 3 = d.toNat := by rw [bt_eq, bl_mkB]; rfl
  rw [g0, g1, g2, g3, mkB_size, hl]
  have ha := a.toNat_lt
  have hb := b.toNat_lt
  have hc := c.toNat_lt
  have hd := d.toNat_lt
  rw [w64 (n := (a.toNat : Int)) (by omega), w64 (n := (b.toNat : Int)) (by omega), w64 (n := (c.toNat : Int)) (by omega), w64 (n := (d.toNat : Int)) (by omega), w64 (n := 256 * (b.toNat : Int)) (by omega), w64 (n := 256 * (d.toNat : Int)) (by omega), w64 (n := (a.toNat : Int) + 256 * b.toNat) (by omega), w64 (n := (c.toNat : Int) + 256 * d.toNat) (by omega), ← e1, ← e2]
  repeat (first
    | refine t_tickS h fun w h => ?_
    | refine t_keepN ?_
    | refine t_ldB h 0 rfl rfl ?_
    | refine t_ldB h 1 rfl rfl ?_
    | refine t_ldB h 2 rfl rfl ?_
    | refine t_ldB h 3 rfl rfl ?_
    | refine t_ldB h 4 rfl rfl ?_
    | refine t_ldB h 5 rfl rfl ?_
    | refine t_ldB h 6 rfl rfl ?_
    | refine t_ldB h 7 rfl rfl ?_
    | refine t_ldB h 8 rfl rfl ?_
    | refine t_ldB h 9 rfl rfl ?_
    | refine t_ldO h 0 rfl rfl rfl ?_
    | refine t_ldO h 1 rfl rfl rfl ?_
    | refine t_ldO h 2 rfl rfl rfl ?_
    | refine t_ldO h 3 rfl rfl rfl ?_
    | refine t_ldO h 4 rfl rfl rfl ?_
    | refine t_ldO h 5 rfl rfl rfl ?_
    | refine t_ldO h 6 rfl rfl rfl ?_
    | refine t_ldO h 7 rfl rfl rfl ?_
    | refine t_ldO h 8 rfl rfl rfl ?_
    | refine t_ldO h 9 rfl rfl rfl ?_
    | refine t_keepB h 0 rfl rfl ?_
    | refine t_keepB h 1 rfl rfl ?_
    | refine t_keepB h 2 rfl rfl ?_
    | refine t_keepB h 3 rfl rfl ?_
    | refine t_keepB h 4 rfl rfl ?_
    | refine t_keepB h 5 rfl rfl ?_
    | refine t_keepB h 6 rfl rfl ?_
    | refine t_keepB h 7 rfl rfl ?_
    | refine t_keepB h 8 rfl rfl ?_
    | refine t_keepB h 9 rfl rfl ?_
    | (refine t_stB h 0 rfl (by simp [setL]) (by simp [Value.oneCell']) fun w h => ?_; try dsimp only [List.set, setL, List.eraseIdx, List.cons_append, List.nil_append, List.append_nil, Nat.zero_add, Nat.reduceAdd, Sl.v] at h)
    | (refine t_stB h 1 rfl (by simp [setL]) (by simp [Value.oneCell']) fun w h => ?_; try dsimp only [List.set, setL, List.eraseIdx, List.cons_append, List.nil_append, List.append_nil, Nat.zero_add, Nat.reduceAdd, Sl.v] at h)
    | (refine t_stB h 2 rfl (by simp [setL]) (by simp [Value.oneCell']) fun w h => ?_; try dsimp only [List.set, setL, List.eraseIdx, List.cons_append, List.nil_append, List.append_nil, Nat.zero_add, Nat.reduceAdd, Sl.v] at h)
    | (refine t_stB h 3 rfl (by simp [setL]) (by simp [Value.oneCell']) fun w h => ?_; try dsimp only [List.set, setL, List.eraseIdx, List.cons_append, List.nil_append, List.append_nil, Nat.zero_add, Nat.reduceAdd, Sl.v] at h)
    | (refine t_stB h 4 rfl (by simp [setL]) (by simp [Value.oneCell']) fun w h => ?_; try dsimp only [List.set, setL, List.eraseIdx, List.cons_append, List.nil_append, List.append_nil, Nat.zero_add, Nat.reduceAdd, Sl.v] at h)
    | (refine t_stB h 5 rfl (by simp [setL]) (by simp [Value.oneCell']) fun w h => ?_; try dsimp only [List.set, setL, List.eraseIdx, List.cons_append, List.nil_append, List.append_nil, Nat.zero_add, Nat.reduceAdd, Sl.v] at h)
    | (refine t_stB h 6 rfl (by simp [setL]) (by simp [Value.oneCell']) fun w h => ?_; try dsimp only [List.set, setL, List.eraseIdx, List.cons_append, List.nil_append, List.append_nil, Nat.zero_add, Nat.reduceAdd, Sl.v] at h)
    | (refine t_stB h 7 rfl (by simp [setL]) (by simp [Value.oneCell']) fun w h => ?_; try dsimp only [List.set, setL, List.eraseIdx, List.cons_append, List.nil_append, List.append_nil, Nat.zero_add, Nat.reduceAdd, Sl.v] at h)
    | (refine t_stB h 8 rfl (by simp [setL]) (by simp [Value.oneCell']) fun w h => ?_; try dsimp only [List.set, setL, List.eraseIdx, List.cons_append, List.nil_append, List.append_nil, Nat.zero_add, Nat.reduceAdd, Sl.v] at h)
    | (refine t_stB h 9 rfl (by simp [setL]) (by simp [Value.oneCell']) fun w h => ?_; try dsimp only [List.set, setL, List.eraseIdx, List.cons_append, List.nil_append, List.append_nil, Nat.zero_add, Nat.reduceAdd, Sl.v] at h)
    | refine t_newB h (by simp [Value.oneCell']) fun w b h hb => ?_
    | refine t_nil ?_
    | refine t_true rfl ?_
    | refine t_false rfl ?_
    | refine t_yes rfl ?_
    | refine t_nyes rfl ?_
    | refine t_no (by decide) ?_
    | refine t_nno (by decide) ?_
    | refine t_need (by decide) ?_)
  try dsimp only [List.set, setL, List.eraseIdx, List.cons_append, List.nil_append, List.append_nil, Nat.zero_add, Nat.reduceAdd, Sl.v] at h
  refine t_ret ⟨?_, h.drop⟩
  rw [IntWalk.rem_in _ _ (by omega)]
  rfl
theorem leB_two (v : Nat) (h : v < 65536) : M.leB v 2 = [UInt8.ofNat (v % 256), UInt8.ofNat (v / 256)] := by
  have e : (List.range 2) = [0, 1] := rfl
  unfold M.leB M.byteAt
  rw [e]
  simp
  rw [Nat.mod_eq_of_lt (by omega)]
theorem u8_lo (v : Int) (h : 0 ≤ v ∧ v < 65536) : Value.int .u8 (IntKind.u8.wrap (v.tmod 256)) = .int .u8 ((UInt8.ofNat (v.toNat % 256)).toNat : Int) := by
  rw [IntWalk.rem_in _ _ (by omega), wrap_u8]
  simp; omega
theorem u8_hi (v : Int) (h : 0 ≤ v ∧ v < 65536) : Value.int .u8 (IntKind.u8.wrap (IntKind.i64.wrap (v.tdiv 256))) = .int .u8 ((UInt8.ofNat (v.toNat / 256)).toNat : Int) := by
  have : v.tdiv 256 = v / 256 := Int.tdiv_eq_ediv_of_nonneg h.1
  rw [this, w64 (by omega), wrap_u8]
  simp; omega
theorem R13_Build_con (e : M.Ev) (hf : i64R e.off ∧ i64R e.fl) : Con Tryz.prog NoRo 49 #[Ev.v e] (.tup [.S, .I]) [] (mkB (if e.ok then M.evB e else []), (if e.ok then 0 else 1), ()) [] := by
  intro w0 W w B _ h
  refine aqueductref13_Build.calls (e.off, e.wrap, e.fl, ()) ?_
  unfold aqueductref13_Build.T
  have no : ∀ {w}, St w0 W w B → ¬ e.ok → Ending.returned (.tuple #[.string (ByteArray.mk #[]), .int .i64 1]) = .returned ((Rk.tup [.S, .I]).v (mkB (if e.ok then M.evB e else []), (if e.ok then 0 else 1), ())) ∧ St w0 W w ([] ++ B) := fun hs hn => by
    rw [if_neg hn, if_neg hn]; exact ⟨rfl, hs⟩
  unfold i64R at hf
  repeat (first
    | refine t_tickS h fun w h => ?_
    | refine t_keepN ?_
    | refine t_ldB h 0 rfl rfl ?_
    | refine t_ldB h 1 rfl rfl ?_
    | refine t_ldB h 2 rfl rfl ?_
    | refine t_ldB h 3 rfl rfl ?_
    | refine t_ldB h 4 rfl rfl ?_
    | refine t_ldB h 5 rfl rfl ?_
    | refine t_ldB h 6 rfl rfl ?_
    | refine t_ldB h 7 rfl rfl ?_
    | refine t_ldB h 8 rfl rfl ?_
    | refine t_ldB h 9 rfl rfl ?_
    | refine t_ldO h 0 rfl rfl rfl ?_
    | refine t_ldO h 1 rfl rfl rfl ?_
    | refine t_ldO h 2 rfl rfl rfl ?_
    | refine t_ldO h 3 rfl rfl rfl ?_
    | refine t_ldO h 4 rfl rfl rfl ?_
    | refine t_ldO h 5 rfl rfl rfl ?_
    | refine t_ldO h 6 rfl rfl rfl ?_
    | refine t_ldO h 7 rfl rfl rfl ?_
    | refine t_ldO h 8 rfl rfl rfl ?_
    | refine t_ldO h 9 rfl rfl rfl ?_
    | refine t_keepB h 0 rfl rfl ?_
    | refine t_keepB h 1 rfl rfl ?_
    | refine t_keepB h 2 rfl rfl ?_
    | refine t_keepB h 3 rfl rfl ?_
    | refine t_keepB h 4 rfl rfl ?_
    | refine t_keepB h 5 rfl rfl ?_
    | refine t_keepB h 6 rfl rfl ?_
    | refine t_keepB h 7 rfl rfl ?_
    | refine t_keepB h 8 rfl rfl ?_
    | refine t_keepB h 9 rfl rfl ?_
    | (refine t_stB h 0 rfl (by simp [setL]) (by simp [Value.oneCell']) fun w h => ?_; try dsimp only [List.set, setL, List.eraseIdx, List.cons_append, List.nil_append, List.append_nil, Nat.zero_add, Nat.reduceAdd, Sl.v] at h)
    | (refine t_stB h 1 rfl (by simp [setL]) (by simp [Value.oneCell']) fun w h => ?_; try dsimp only [List.set, setL, List.eraseIdx, List.cons_append, List.nil_append, List.append_nil, Nat.zero_add, Nat.reduceAdd, Sl.v] at h)
    | (refine t_stB h 2 rfl (by simp [setL]) (by simp [Value.oneCell']) fun w h => ?_; try dsimp only [List.set, setL, List.eraseIdx, List.cons_append, List.nil_append, List.append_nil, Nat.zero_add, Nat.reduceAdd, Sl.v] at h)
    | (refine t_stB h 3 rfl (by simp [setL]) (by simp [Value.oneCell']) fun w h => ?_; try dsimp only [List.set, setL, List.eraseIdx, List.cons_append, List.nil_append, List.append_nil, Nat.zero_add, Nat.reduceAdd, Sl.v] at h)
    | (refine t_stB h 4 rfl (by simp [setL]) (by simp [Value.oneCell']) fun w h => ?_; try dsimp only [List.set, setL, List.eraseIdx, List.cons_append, List.nil_append, List.append_nil, Nat.zero_add, Nat.reduceAdd, Sl.v] at h)
    | (refine t_stB h 5 rfl (by simp [setL]) (by simp [Value.oneCell']) fun w h => ?_; try dsimp only [List.set, setL, List.eraseIdx, List.cons_append, List.nil_append, List.append_nil, Nat.zero_add, Nat.reduceAdd, Sl.v] at h)
    | (refine t_stB h 6 rfl (by simp [setL]) (by simp [Value.oneCell']) fun w h => ?_; try dsimp only [List.set, setL, List.eraseIdx, List.cons_append, List.nil_append, List.append_nil, Nat.zero_add, Nat.reduceAdd, Sl.v] at h)
    | (refine t_stB h 7 rfl (by simp [setL]) (by simp [Value.oneCell']) fun w h => ?_; try dsimp only [List.set, setL, List.eraseIdx, List.cons_append, List.nil_append, List.append_nil, Nat.zero_add, Nat.reduceAdd, Sl.v] at h)
    | (refine t_stB h 8 rfl (by simp [setL]) (by simp [Value.oneCell']) fun w h => ?_; try dsimp only [List.set, setL, List.eraseIdx, List.cons_append, List.nil_append, List.append_nil, Nat.zero_add, Nat.reduceAdd, Sl.v] at h)
    | (refine t_stB h 9 rfl (by simp [setL]) (by simp [Value.oneCell']) fun w h => ?_; try dsimp only [List.set, setL, List.eraseIdx, List.cons_append, List.nil_append, List.append_nil, Nat.zero_add, Nat.reduceAdd, Sl.v] at h)
    | refine t_newB h (by simp [Value.oneCell']) fun w b h hb => ?_
    | refine t_nil ?_
    | refine t_true rfl ?_
    | refine t_false rfl ?_
    | refine t_yes rfl ?_
    | refine t_nyes rfl ?_
    | refine t_no (by decide) ?_
    | refine t_nno (by decide) ?_
    | refine t_need (by decide) ?_)
  try dsimp only [List.set, setL, List.eraseIdx, List.cons_append, List.nil_append, List.append_nil, Nat.zero_add, Nat.reduceAdd, Sl.v] at h
  refine t_if (fun c1 => t_ret (no h.drop (by unfold M.Ev.ok; omega))) (fun c1 => ?_)
  repeat (first
    | refine t_tickS h fun w h => ?_
    | refine t_keepN ?_
    | refine t_ldB h 0 rfl rfl ?_
    | refine t_ldB h 1 rfl rfl ?_
    | refine t_ldB h 2 rfl rfl ?_
    | refine t_ldB h 3 rfl rfl ?_
    | refine t_ldB h 4 rfl rfl ?_
    | refine t_ldB h 5 rfl rfl ?_
    | refine t_ldB h 6 rfl rfl ?_
    | refine t_ldB h 7 rfl rfl ?_
    | refine t_ldB h 8 rfl rfl ?_
    | refine t_ldB h 9 rfl rfl ?_
    | refine t_ldO h 0 rfl rfl rfl ?_
    | refine t_ldO h 1 rfl rfl rfl ?_
    | refine t_ldO h 2 rfl rfl rfl ?_
    | refine t_ldO h 3 rfl rfl rfl ?_
    | refine t_ldO h 4 rfl rfl rfl ?_
    | refine t_ldO h 5 rfl rfl rfl ?_
    | refine t_ldO h 6 rfl rfl rfl ?_
    | refine t_ldO h 7 rfl rfl rfl ?_
    | refine t_ldO h 8 rfl rfl rfl ?_
    | refine t_ldO h 9 rfl rfl rfl ?_
    | refine t_keepB h 0 rfl rfl ?_
    | refine t_keepB h 1 rfl rfl ?_
    | refine t_keepB h 2 rfl rfl ?_
    | refine t_keepB h 3 rfl rfl ?_
    | refine t_keepB h 4 rfl rfl ?_
    | refine t_keepB h 5 rfl rfl ?_
    | refine t_keepB h 6 rfl rfl ?_
    | refine t_keepB h 7 rfl rfl ?_
    | refine t_keepB h 8 rfl rfl ?_
    | refine t_keepB h 9 rfl rfl ?_
    | (refine t_stB h 0 rfl (by simp [setL]) (by simp [Value.oneCell']) fun w h => ?_; try dsimp only [List.set, setL, List.eraseIdx, List.cons_append, List.nil_append, List.append_nil, Nat.zero_add, Nat.reduceAdd, Sl.v] at h)
    | (refine t_stB h 1 rfl (by simp [setL]) (by simp [Value.oneCell']) fun w h => ?_; try dsimp only [List.set, setL, List.eraseIdx, List.cons_append, List.nil_append, List.append_nil, Nat.zero_add, Nat.reduceAdd, Sl.v] at h)
    | (refine t_stB h 2 rfl (by simp [setL]) (by simp [Value.oneCell']) fun w h => ?_; try dsimp only [List.set, setL, List.eraseIdx, List.cons_append, List.nil_append, List.append_nil, Nat.zero_add, Nat.reduceAdd, Sl.v] at h)
    | (refine t_stB h 3 rfl (by simp [setL]) (by simp [Value.oneCell']) fun w h => ?_; try dsimp only [List.set, setL, List.eraseIdx, List.cons_append, List.nil_append, List.append_nil, Nat.zero_add, Nat.reduceAdd, Sl.v] at h)
    | (refine t_stB h 4 rfl (by simp [setL]) (by simp [Value.oneCell']) fun w h => ?_; try dsimp only [List.set, setL, List.eraseIdx, List.cons_append, List.nil_append, List.append_nil, Nat.zero_add, Nat.reduceAdd, Sl.v] at h)
    | (refine t_stB h 5 rfl (by simp [setL]) (by simp [Value.oneCell']) fun w h => ?_; try dsimp only [List.set, setL, List.eraseIdx, List.cons_append, List.nil_append, List.append_nil, Nat.zero_add, Nat.reduceAdd, Sl.v] at h)
    | (refine t_stB h 6 rfl (by simp [setL]) (by simp [Value.oneCell']) fun w h => ?_; try dsimp only [List.set, setL, List.eraseIdx, List.cons_append, List.nil_append, List.append_nil, Nat.zero_add, Nat.reduceAdd, Sl.v] at h)
    | (refine t_stB h 7 rfl (by simp [setL]) (by simp [Value.oneCell']) fun w h => ?_; try dsimp only [List.set, setL, List.eraseIdx, List.cons_append, List.nil_append, List.append_nil, Nat.zero_add, Nat.reduceAdd, Sl.v] at h)
    | (refine t_stB h 8 rfl (by simp [setL]) (by simp [Value.oneCell']) fun w h => ?_; try dsimp only [List.set, setL, List.eraseIdx, List.cons_append, List.nil_append, List.append_nil, Nat.zero_add, Nat.reduceAdd, Sl.v] at h)
    | (refine t_stB h 9 rfl (by simp [setL]) (by simp [Value.oneCell']) fun w h => ?_; try dsimp only [List.set, setL, List.eraseIdx, List.cons_append, List.nil_append, List.append_nil, Nat.zero_add, Nat.reduceAdd, Sl.v] at h)
    | refine t_newB h (by simp [Value.oneCell']) fun w b h hb => ?_
    | refine t_nil ?_
    | refine t_true rfl ?_
    | refine t_false rfl ?_
    | refine t_yes rfl ?_
    | refine t_nyes rfl ?_
    | refine t_no (by decide) ?_
    | refine t_nno (by decide) ?_
    | refine t_need (by decide) ?_)
  try dsimp only [List.set, setL, List.eraseIdx, List.cons_append, List.nil_append, List.append_nil, Nat.zero_add, Nat.reduceAdd, Sl.v] at h
  refine t_if (fun c2 => t_ret (no h.drop (by unfold M.Ev.ok; omega))) (fun c2 => ?_)
  repeat (first
    | refine t_tickS h fun w h => ?_
    | refine t_keepN ?_
    | refine t_ldB h 0 rfl rfl ?_
    | refine t_ldB h 1 rfl rfl ?_
    | refine t_ldB h 2 rfl rfl ?_
    | refine t_ldB h 3 rfl rfl ?_
    | refine t_ldB h 4 rfl rfl ?_
    | refine t_ldB h 5 rfl rfl ?_
    | refine t_ldB h 6 rfl rfl ?_
    | refine t_ldB h 7 rfl rfl ?_
    | refine t_ldB h 8 rfl rfl ?_
    | refine t_ldB h 9 rfl rfl ?_
    | refine t_ldO h 0 rfl rfl rfl ?_
    | refine t_ldO h 1 rfl rfl rfl ?_
    | refine t_ldO h 2 rfl rfl rfl ?_
    | refine t_ldO h 3 rfl rfl rfl ?_
    | refine t_ldO h 4 rfl rfl rfl ?_
    | refine t_ldO h 5 rfl rfl rfl ?_
    | refine t_ldO h 6 rfl rfl rfl ?_
    | refine t_ldO h 7 rfl rfl rfl ?_
    | refine t_ldO h 8 rfl rfl rfl ?_
    | refine t_ldO h 9 rfl rfl rfl ?_
    | refine t_keepB h 0 rfl rfl ?_
    | refine t_keepB h 1 rfl rfl ?_
    | refine t_keepB h 2 rfl rfl ?_
    | refine t_keepB h 3 rfl rfl ?_
    | refine t_keepB h 4 rfl rfl ?_
    | refine t_keepB h 5 rfl rfl ?_
    | refine t_keepB h 6 rfl rfl ?_
    | refine t_keepB h 7 rfl rfl ?_
    | refine t_keepB h 8 rfl rfl ?_
    | refine t_keepB h 9 rfl rfl ?_
    | (refine t_stB h 0 rfl (by simp [setL]) (by simp [Value.oneCell']) fun w h => ?_; try dsimp only [List.set, setL, List.eraseIdx, List.cons_append, List.nil_append, List.append_nil, Nat.zero_add, Nat.reduceAdd, Sl.v] at h)
    | (refine t_stB h 1 rfl (by simp [setL]) (by simp [Value.oneCell']) fun w h => ?_; try dsimp only [List.set, setL, List.eraseIdx, List.cons_append, List.nil_append, List.append_nil, Nat.zero_add, Nat.reduceAdd, Sl.v] at h)
    | (refine t_stB h 2 rfl (by simp [setL]) (by simp [Value.oneCell']) fun w h => ?_; try dsimp only [List.set, setL, List.eraseIdx, List.cons_append, List.nil_append, List.append_nil, Nat.zero_add, Nat.reduceAdd, Sl.v] at h)
    | (refine t_stB h 3 rfl (by simp [setL]) (by simp [Value.oneCell']) fun w h => ?_; try dsimp only [List.set, setL, List.eraseIdx, List.cons_append, List.nil_append, List.append_nil, Nat.zero_add, Nat.reduceAdd, Sl.v] at h)
    | (refine t_stB h 4 rfl (by simp [setL]) (by simp [Value.oneCell']) fun w h => ?_; try dsimp only [List.set, setL, List.eraseIdx, List.cons_append, List.nil_append, List.append_nil, Nat.zero_add, Nat.reduceAdd, Sl.v] at h)
    | (refine t_stB h 5 rfl (by simp [setL]) (by simp [Value.oneCell']) fun w h => ?_; try dsimp only [List.set, setL, List.eraseIdx, List.cons_append, List.nil_append, List.append_nil, Nat.zero_add, Nat.reduceAdd, Sl.v] at h)
    | (refine t_stB h 6 rfl (by simp [setL]) (by simp [Value.oneCell']) fun w h => ?_; try dsimp only [List.set, setL, List.eraseIdx, List.cons_append, List.nil_append, List.append_nil, Nat.zero_add, Nat.reduceAdd, Sl.v] at h)
    | (refine t_stB h 7 rfl (by simp [setL]) (by simp [Value.oneCell']) fun w h => ?_; try dsimp only [List.set, setL, List.eraseIdx, List.cons_append, List.nil_append, List.append_nil, Nat.zero_add, Nat.reduceAdd, Sl.v] at h)
    | (refine t_stB h 8 rfl (by simp [setL]) (by simp [Value.oneCell']) fun w h => ?_; try dsimp only [List.set, setL, List.eraseIdx, List.cons_append, List.nil_append, List.append_nil, Nat.zero_add, Nat.reduceAdd, Sl.v] at h)
    | (refine t_stB h 9 rfl (by simp [setL]) (by simp [Value.oneCell']) fun w h => ?_; try dsimp only [List.set, setL, List.eraseIdx, List.cons_append, List.nil_append, List.append_nil, Nat.zero_add, Nat.reduceAdd, Sl.v] at h)
    | refine t_newB h (by simp [Value.oneCell']) fun w b h hb => ?_
    | refine t_nil ?_
    | refine t_true rfl ?_
    | refine t_false rfl ?_
    | refine t_yes rfl ?_
    | refine t_nyes rfl ?_
    | refine t_no (by decide) ?_
    | refine t_nno (by decide) ?_
    | refine t_need (by decide) ?_)
  try dsimp only [List.set, setL, List.eraseIdx, List.cons_append, List.nil_append, List.append_nil, Nat.zero_add, Nat.reduceAdd, Sl.v] at h
  refine t_if (fun c3 => t_ret (no h.drop (by unfold M.Ev.ok; omega))) (fun c3 => ?_)
  repeat (first
    | refine t_tickS h fun w h => ?_
    | refine t_keepN ?_
    | refine t_ldB h 0 rfl rfl ?_
    | refine t_ldB h 1 rfl rfl ?_
    | refine t_ldB h 2 rfl rfl ?_
    | refine t_ldB h 3 rfl rfl ?_
    | refine t_ldB h 4 rfl rfl ?_
    | refine t_ldB h 5 rfl rfl ?_
    | refine t_ldB h 6 rfl rfl ?_
    | refine t_ldB h 7 rfl rfl ?_
    | refine t_ldB h 8 rfl rfl ?_
    | refine t_ldB h 9 rfl rfl ?_
    | refine t_ldO h 0 rfl rfl rfl ?_
    | refine t_ldO h 1 rfl rfl rfl ?_
    | refine t_ldO h 2 rfl rfl rfl ?_
    | refine t_ldO h 3 rfl rfl rfl ?_
    | refine t_ldO h 4 rfl rfl rfl ?_
    | refine t_ldO h 5 rfl rfl rfl ?_
    | refine t_ldO h 6 rfl rfl rfl ?_
    | refine t_ldO h 7 rfl rfl rfl ?_
    | refine t_ldO h 8 rfl rfl rfl ?_
    | refine t_ldO h 9 rfl rfl rfl ?_
    | refine t_keepB h 0 rfl rfl ?_
    | refine t_keepB h 1 rfl rfl ?_
    | refine t_keepB h 2 rfl rfl ?_
    | refine t_keepB h 3 rfl rfl ?_
    | refine t_keepB h 4 rfl rfl ?_
    | refine t_keepB h 5 rfl rfl ?_
    | refine t_keepB h 6 rfl rfl ?_
    | refine t_keepB h 7 rfl rfl ?_
    | refine t_keepB h 8 rfl rfl ?_
    | refine t_keepB h 9 rfl rfl ?_
    | (refine t_stB h 0 rfl (by simp [setL]) (by simp [Value.oneCell']) fun w h => ?_; try dsimp only [List.set, setL, List.eraseIdx, List.cons_append, List.nil_append, List.append_nil, Nat.zero_add, Nat.reduceAdd, Sl.v] at h)
    | (refine t_stB h 1 rfl (by simp [setL]) (by simp [Value.oneCell']) fun w h => ?_; try dsimp only [List.set, setL, List.eraseIdx, List.cons_append, List.nil_append, List.append_nil, Nat.zero_add, Nat.reduceAdd, Sl.v] at h)
    | (refine t_stB h 2 rfl (by simp [setL]) (by simp [Value.oneCell']) fun w h => ?_; try dsimp only [List.set, setL, List.eraseIdx, List.cons_append, List.nil_append, List.append_nil, Nat.zero_add, Nat.reduceAdd, Sl.v] at h)
    | (refine t_stB h 3 rfl (by simp [setL]) (by simp [Value.oneCell']) fun w h => ?_; try dsimp only [List.set, setL, List.eraseIdx, List.cons_append, List.nil_append, List.append_nil, Nat.zero_add, Nat.reduceAdd, Sl.v] at h)
    | (refine t_stB h 4 rfl (by simp [setL]) (by simp [Value.oneCell']) fun w h => ?_; try dsimp only [List.set, setL, List.eraseIdx, List.cons_append, List.nil_append, List.append_nil, Nat.zero_add, Nat.reduceAdd, Sl.v] at h)
    | (refine t_stB h 5 rfl (by simp [setL]) (by simp [Value.oneCell']) fun w h => ?_; try dsimp only [List.set, setL, List.eraseIdx, List.cons_append, List.nil_append, List.append_nil, Nat.zero_add, Nat.reduceAdd, Sl.v] at h)
    | (refine t_stB h 6 rfl (by simp [setL]) (by simp [Value.oneCell']) fun w h => ?_; try dsimp only [List.set, setL, List.eraseIdx, List.cons_append, List.nil_append, List.append_nil, Nat.zero_add, Nat.reduceAdd, Sl.v] at h)
    | (refine t_stB h 7 rfl (by simp [setL]) (by simp [Value.oneCell']) fun w h => ?_; try dsimp only [List.set, setL, List.eraseIdx, List.cons_append, List.nil_append, List.append_nil, Nat.zero_add, Nat.reduceAdd, Sl.v] at h)
    | (refine t_stB h 8 rfl (by simp [setL]) (by simp [Value.oneCell']) fun w h => ?_; try dsimp only [List.set, setL, List.eraseIdx, List.cons_append, List.nil_append, List.append_nil, Nat.zero_add, Nat.reduceAdd, Sl.v] at h)
    | (refine t_stB h 9 rfl (by simp [setL]) (by simp [Value.oneCell']) fun w h => ?_; try dsimp only [List.set, setL, List.eraseIdx, List.cons_append, List.nil_append, List.append_nil, Nat.zero_add, Nat.reduceAdd, Sl.v] at h)
    | refine t_newB h (by simp [Value.oneCell']) fun w b h hb => ?_
    | refine t_nil ?_
    | refine t_true rfl ?_
    | refine t_false rfl ?_
    | refine t_yes rfl ?_
    | refine t_nyes rfl ?_
    | refine t_no (by decide) ?_
    | refine t_nno (by decide) ?_
    | refine t_need (by decide) ?_)
  try dsimp only [List.set, setL, List.eraseIdx, List.cons_append, List.nil_append, List.append_nil, Nat.zero_add, Nat.reduceAdd, Sl.v] at h
  refine t_if (fun c4 => t_ret (no h.drop (by unfold M.Ev.ok; omega))) (fun c4 => ?_)
  dsimp only at c1
  have hok : e.ok := by unfold M.Ev.ok; omega
  rw [if_pos hok, if_pos hok]
  have hB : ∀ o : Int, (0 ≤ o ∧ o < 65536) → o = e.off + (if e.wrap then 32768 else 0) → M.evB e = [UInt8.ofNat (o.toNat % 256), UInt8.ofNat (o.toNat / 256), UInt8.ofNat (e.fl.toNat % 256), UInt8.ofNat (e.fl.toNat / 256)] := by
    intro o ho he
    unfold M.evB
    rw [← he, leB_two _ (by omega), leB_two _ (by omega)]
    rfl
  repeat (first
    | refine t_tickS h fun w h => ?_
    | refine t_keepN ?_
    | refine t_ldB h 0 rfl rfl ?_
    | refine t_ldB h 1 rfl rfl ?_
    | refine t_ldB h 2 rfl rfl ?_
    | refine t_ldB h 3 rfl rfl ?_
    | refine t_ldB h 4 rfl rfl ?_
    | refine t_ldB h 5 rfl rfl ?_
    | refine t_ldB h 6 rfl rfl ?_
    | refine t_ldB h 7 rfl rfl ?_
    | refine t_ldB h 8 rfl rfl ?_
    | refine t_ldB h 9 rfl rfl ?_
    | refine t_ldO h 0 rfl rfl rfl ?_
    | refine t_ldO h 1 rfl rfl rfl ?_
    | refine t_ldO h 2 rfl rfl rfl ?_
    | refine t_ldO h 3 rfl rfl rfl ?_
    | refine t_ldO h 4 rfl rfl rfl ?_
    | refine t_ldO h 5 rfl rfl rfl ?_
    | refine t_ldO h 6 rfl rfl rfl ?_
    | refine t_ldO h 7 rfl rfl rfl ?_
    | refine t_ldO h 8 rfl rfl rfl ?_
    | refine t_ldO h 9 rfl rfl rfl ?_
    | refine t_keepB h 0 rfl rfl ?_
    | refine t_keepB h 1 rfl rfl ?_
    | refine t_keepB h 2 rfl rfl ?_
    | refine t_keepB h 3 rfl rfl ?_
    | refine t_keepB h 4 rfl rfl ?_
    | refine t_keepB h 5 rfl rfl ?_
    | refine t_keepB h 6 rfl rfl ?_
    | refine t_keepB h 7 rfl rfl ?_
    | refine t_keepB h 8 rfl rfl ?_
    | refine t_keepB h 9 rfl rfl ?_
    | (refine t_stB h 0 rfl (by simp [setL]) (by simp [Value.oneCell']) fun w h => ?_; try dsimp only [List.set, setL, List.eraseIdx, List.cons_append, List.nil_append, List.append_nil, Nat.zero_add, Nat.reduceAdd, Sl.v] at h)
    | (refine t_stB h 1 rfl (by simp [setL]) (by simp [Value.oneCell']) fun w h => ?_; try dsimp only [List.set, setL, List.eraseIdx, List.cons_append, List.nil_append, List.append_nil, Nat.zero_add, Nat.reduceAdd, Sl.v] at h)
    | (refine t_stB h 2 rfl (by simp [setL]) (by simp [Value.oneCell']) fun w h => ?_; try dsimp only [List.set, setL, List.eraseIdx, List.cons_append, List.nil_append, List.append_nil, Nat.zero_add, Nat.reduceAdd, Sl.v] at h)
    | (refine t_stB h 3 rfl (by simp [setL]) (by simp [Value.oneCell']) fun w h => ?_; try dsimp only [List.set, setL, List.eraseIdx, List.cons_append, List.nil_append, List.append_nil, Nat.zero_add, Nat.reduceAdd, Sl.v] at h)
    | (refine t_stB h 4 rfl (by simp [setL]) (by simp [Value.oneCell']) fun w h => ?_; try dsimp only [List.set, setL, List.eraseIdx, List.cons_append, List.nil_append, List.append_nil, Nat.zero_add, Nat.reduceAdd, Sl.v] at h)
    | (refine t_stB h 5 rfl (by simp [setL]) (by simp [Value.oneCell']) fun w h => ?_; try dsimp only [List.set, setL, List.eraseIdx, List.cons_append, List.nil_append, List.append_nil, Nat.zero_add, Nat.reduceAdd, Sl.v] at h)
    | (refine t_stB h 6 rfl (by simp [setL]) (by simp [Value.oneCell']) fun w h => ?_; try dsimp only [List.set, setL, List.eraseIdx, List.cons_append, List.nil_append, List.append_nil, Nat.zero_add, Nat.reduceAdd, Sl.v] at h)
    | (refine t_stB h 7 rfl (by simp [setL]) (by simp [Value.oneCell']) fun w h => ?_; try dsimp only [List.set, setL, List.eraseIdx, List.cons_append, List.nil_append, List.append_nil, Nat.zero_add, Nat.reduceAdd, Sl.v] at h)
    | (refine t_stB h 8 rfl (by simp [setL]) (by simp [Value.oneCell']) fun w h => ?_; try dsimp only [List.set, setL, List.eraseIdx, List.cons_append, List.nil_append, List.append_nil, Nat.zero_add, Nat.reduceAdd, Sl.v] at h)
    | (refine t_stB h 9 rfl (by simp [setL]) (by simp [Value.oneCell']) fun w h => ?_; try dsimp only [List.set, setL, List.eraseIdx, List.cons_append, List.nil_append, List.append_nil, Nat.zero_add, Nat.reduceAdd, Sl.v] at h)
    | refine t_newB h (by simp [Value.oneCell']) fun w b h hb => ?_
    | refine t_nil ?_
    | refine t_true rfl ?_
    | refine t_false rfl ?_
    | refine t_yes rfl ?_
    | refine t_nyes rfl ?_
    | refine t_no (by decide) ?_
    | refine t_nno (by decide) ?_
    | refine t_need (by decide) ?_)
  try dsimp only [List.set, setL, List.eraseIdx, List.cons_append, List.nil_append, List.append_nil, Nat.zero_add, Nat.reduceAdd, Sl.v] at h
  refine t_cond (fun c => ?_) (fun c => ?_)
  · repeat (first
      | refine t_tickS h fun w h => ?_
      | refine t_keepN ?_
      | refine t_ldB h 0 rfl rfl ?_
      | refine t_ldB h 1 rfl rfl ?_
      | refine t_ldB h 2 rfl rfl ?_
      | refine t_ldB h 3 rfl rfl ?_
      | refine t_ldB h 4 rfl rfl ?_
      | refine t_ldB h 5 rfl rfl ?_
      | refine t_ldB h 6 rfl rfl ?_
      | refine t_ldB h 7 rfl rfl ?_
      | refine t_ldB h 8 rfl rfl ?_
      | refine t_ldB h 9 rfl rfl ?_
      | refine t_ldO h 0 rfl rfl rfl ?_
      | refine t_ldO h 1 rfl rfl rfl ?_
      | refine t_ldO h 2 rfl rfl rfl ?_
      | refine t_ldO h 3 rfl rfl rfl ?_
      | refine t_ldO h 4 rfl rfl rfl ?_
      | refine t_ldO h 5 rfl rfl rfl ?_
      | refine t_ldO h 6 rfl rfl rfl ?_
      | refine t_ldO h 7 rfl rfl rfl ?_
      | refine t_ldO h 8 rfl rfl rfl ?_
      | refine t_ldO h 9 rfl rfl rfl ?_
      | refine t_keepB h 0 rfl rfl ?_
      | refine t_keepB h 1 rfl rfl ?_
      | refine t_keepB h 2 rfl rfl ?_
      | refine t_keepB h 3 rfl rfl ?_
      | refine t_keepB h 4 rfl rfl ?_
      | refine t_keepB h 5 rfl rfl ?_
      | refine t_keepB h 6 rfl rfl ?_
      | refine t_keepB h 7 rfl rfl ?_
      | refine t_keepB h 8 rfl rfl ?_
      | refine t_keepB h 9 rfl rfl ?_
      | (refine t_stB h 0 rfl (by simp [setL]) (by simp [Value.oneCell']) fun w h => ?_; try dsimp only [List.set, setL, List.eraseIdx, List.cons_append, List.nil_append, List.append_nil, Nat.zero_add, Nat.reduceAdd, Sl.v] at h)
      | (refine t_stB h 1 rfl (by simp [setL]) (by simp [Value.oneCell']) fun w h => ?_; try dsimp only [List.set, setL, List.eraseIdx, List.cons_append, List.nil_append, List.append_nil, Nat.zero_add, Nat.reduceAdd, Sl.v] at h)
      | (refine t_stB h 2 rfl (by simp [setL]) (by simp [Value.oneCell']) fun w h => ?_; try dsimp only [List.set, setL, List.eraseIdx, List.cons_append, List.nil_append, List.append_nil, Nat.zero_add, Nat.reduceAdd, Sl.v] at h)
      | (refine t_stB h 3 rfl (by simp [setL]) (by simp [Value.oneCell']) fun w h => ?_; try dsimp only [List.set, setL, List.eraseIdx, List.cons_append, List.nil_append, List.append_nil, Nat.zero_add, Nat.reduceAdd, Sl.v] at h)
      | (refine t_stB h 4 rfl (by simp [setL]) (by simp [Value.oneCell']) fun w h => ?_; try dsimp only [List.set, setL, List.eraseIdx, List.cons_append, List.nil_append, List.append_nil, Nat.zero_add, Nat.reduceAdd, Sl.v] at h)
      | (refine t_stB h 5 rfl (by simp [setL]) (by simp [Value.oneCell']) fun w h => ?_; try dsimp only [List.set, setL, List.eraseIdx, List.cons_append, List.nil_append, List.append_nil, Nat.zero_add, Nat.reduceAdd, Sl.v] at h)
      | (refine t_stB h 6 rfl (by simp [setL]) (by simp [Value.oneCell']) fun w h => ?_; try dsimp only [List.set, setL, List.eraseIdx, List.cons_append, List.nil_append, List.append_nil, Nat.zero_add, Nat.reduceAdd, Sl.v] at h)
      | (refine t_stB h 7 rfl (by simp [setL]) (by simp [Value.oneCell']) fun w h => ?_; try dsimp only [List.set, setL, List.eraseIdx, List.cons_append, List.nil_append, List.append_nil, Nat.zero_add, Nat.reduceAdd, Sl.v] at h)
      | (refine t_stB h 8 rfl (by simp [setL]) (by simp [Value.oneCell']) fun w h => ?_; try dsimp only [List.set, setL, List.eraseIdx, List.cons_append, List.nil_append, List.append_nil, Nat.zero_add, Nat.reduceAdd, Sl.v] at h)
      | (refine t_stB h 9 rfl (by simp [setL]) (by simp [Value.oneCell']) fun w h => ?_; try dsimp only [List.set, setL, List.eraseIdx, List.cons_append, List.nil_append, List.append_nil, Nat.zero_add, Nat.reduceAdd, Sl.v] at h)
      | refine t_newB h (by simp [Value.oneCell']) fun w b h hb => ?_
      | refine t_nil ?_
      | refine t_true rfl ?_
      | refine t_false rfl ?_
      | refine t_yes rfl ?_
      | refine t_nyes rfl ?_
      | refine t_no (by decide) ?_
      | refine t_nno (by decide) ?_
      | refine t_need (by decide) ?_)
    try dsimp only [List.set, setL, List.eraseIdx, List.cons_append, List.nil_append, List.append_nil, Nat.zero_add, Nat.reduceAdd, Sl.v] at h
    rw [w64 (n := e.off + 32768) (by omega), u8_lo _ (by omega), u8_hi _ (by omega), u8_lo e.fl (by omega), u8_hi e.fl (by omega)] at h
    refine t_strB (l := M.evB e) bytesT h 0 (by rw [hB (e.off + 32768) (by omega) (by rw [c]; rfl)]; rfl) (by rw [hB (e.off + 32768) (by omega) (by rw [c]; rfl)]; rfl) (by rw [hB (e.off + 32768) (by omega) (by rw [c]; rfl)]; simp) (t_ret ⟨rfl, h.weak (by repeat (first | exact Weak.refl _ | apply Weak.c0 | apply Weak.c1 | apply Weak.c2 | apply Weak.c3 | apply Weak.c4 | apply Weak.c5 | apply Weak.c6 | apply Weak.c7 | apply Weak.c8 | apply Weak.c9 | apply Weak.c10 | apply Weak.c11 | apply Weak.drop))⟩)
  · repeat (first
      | refine t_tickS h fun w h => ?_
      | refine t_keepN ?_
      | refine t_ldB h 0 rfl rfl ?_
      | refine t_ldB h 1 rfl rfl ?_
      | refine t_ldB h 2 rfl rfl ?_
      | refine t_ldB h 3 rfl rfl ?_
      | refine t_ldB h 4 rfl rfl ?_
      | refine t_ldB h 5 rfl rfl ?_
      | refine t_ldB h 6 rfl rfl ?_
      | refine t_ldB h 7 rfl rfl ?_
      | refine t_ldB h 8 rfl rfl ?_
      | refine t_ldB h 9 rfl rfl ?_
      | refine t_ldO h 0 rfl rfl rfl ?_
      | refine t_ldO h 1 rfl rfl rfl ?_
      | refine t_ldO h 2 rfl rfl rfl ?_
      | refine t_ldO h 3 rfl rfl rfl ?_
      | refine t_ldO h 4 rfl rfl rfl ?_
      | refine t_ldO h 5 rfl rfl rfl ?_
      | refine t_ldO h 6 rfl rfl rfl ?_
      | refine t_ldO h 7 rfl rfl rfl ?_
      | refine t_ldO h 8 rfl rfl rfl ?_
      | refine t_ldO h 9 rfl rfl rfl ?_
      | refine t_keepB h 0 rfl rfl ?_
      | refine t_keepB h 1 rfl rfl ?_
      | refine t_keepB h 2 rfl rfl ?_
      | refine t_keepB h 3 rfl rfl ?_
      | refine t_keepB h 4 rfl rfl ?_
      | refine t_keepB h 5 rfl rfl ?_
      | refine t_keepB h 6 rfl rfl ?_
      | refine t_keepB h 7 rfl rfl ?_
      | refine t_keepB h 8 rfl rfl ?_
      | refine t_keepB h 9 rfl rfl ?_
      | (refine t_stB h 0 rfl (by simp [setL]) (by simp [Value.oneCell']) fun w h => ?_; try dsimp only [List.set, setL, List.eraseIdx, List.cons_append, List.nil_append, List.append_nil, Nat.zero_add, Nat.reduceAdd, Sl.v] at h)
      | (refine t_stB h 1 rfl (by simp [setL]) (by simp [Value.oneCell']) fun w h => ?_; try dsimp only [List.set, setL, List.eraseIdx, List.cons_append, List.nil_append, List.append_nil, Nat.zero_add, Nat.reduceAdd, Sl.v] at h)
      | (refine t_stB h 2 rfl (by simp [setL]) (by simp [Value.oneCell']) fun w h => ?_; try dsimp only [List.set, setL, List.eraseIdx, List.cons_append, List.nil_append, List.append_nil, Nat.zero_add, Nat.reduceAdd, Sl.v] at h)
      | (refine t_stB h 3 rfl (by simp [setL]) (by simp [Value.oneCell']) fun w h => ?_; try dsimp only [List.set, setL, List.eraseIdx, List.cons_append, List.nil_append, List.append_nil, Nat.zero_add, Nat.reduceAdd, Sl.v] at h)
      | (refine t_stB h 4 rfl (by simp [setL]) (by simp [Value.oneCell']) fun w h => ?_; try dsimp only [List.set, setL, List.eraseIdx, List.cons_append, List.nil_append, List.append_nil, Nat.zero_add, Nat.reduceAdd, Sl.v] at h)
      | (refine t_stB h 5 rfl (by simp [setL]) (by simp [Value.oneCell']) fun w h => ?_; try dsimp only [List.set, setL, List.eraseIdx, List.cons_append, List.nil_append, List.append_nil, Nat.zero_add, Nat.reduceAdd, Sl.v] at h)
      | (refine t_stB h 6 rfl (by simp [setL]) (by simp [Value.oneCell']) fun w h => ?_; try dsimp only [List.set, setL, List.eraseIdx, List.cons_append, List.nil_append, List.append_nil, Nat.zero_add, Nat.reduceAdd, Sl.v] at h)
      | (refine t_stB h 7 rfl (by simp [setL]) (by simp [Value.oneCell']) fun w h => ?_; try dsimp only [List.set, setL, List.eraseIdx, List.cons_append, List.nil_append, List.append_nil, Nat.zero_add, Nat.reduceAdd, Sl.v] at h)
      | (refine t_stB h 8 rfl (by simp [setL]) (by simp [Value.oneCell']) fun w h => ?_; try dsimp only [List.set, setL, List.eraseIdx, List.cons_append, List.nil_append, List.append_nil, Nat.zero_add, Nat.reduceAdd, Sl.v] at h)
      | (refine t_stB h 9 rfl (by simp [setL]) (by simp [Value.oneCell']) fun w h => ?_; try dsimp only [List.set, setL, List.eraseIdx, List.cons_append, List.nil_append, List.append_nil, Nat.zero_add, Nat.reduceAdd, Sl.v] at h)
      | refine t_newB h (by simp [Value.oneCell']) fun w b h hb => ?_
      | refine t_nil ?_
      | refine t_true rfl ?_
      | refine t_false rfl ?_
      | refine t_yes rfl ?_
      | refine t_nyes rfl ?_
      | refine t_no (by decide) ?_
      | refine t_nno (by decide) ?_
      | refine t_need (by decide) ?_)
    try dsimp only [List.set, setL, List.eraseIdx, List.cons_append, List.nil_append, List.append_nil, Nat.zero_add, Nat.reduceAdd, Sl.v] at h
    rw [u8_lo e.off (by omega), u8_hi e.off (by omega), u8_lo e.fl (by omega), u8_hi e.fl (by omega)] at h
    refine t_strB (l := M.evB e) bytesT h 0 (by rw [hB e.off (by omega) (by rw [c]; simp)]; rfl) (by rw [hB e.off (by omega) (by rw [c]; simp)]; rfl) (by rw [hB e.off (by omega) (by rw [c]; simp)]; simp) (t_ret ⟨rfl, h.weak (by repeat (first | exact Weak.refl _ | apply Weak.c0 | apply Weak.c1 | apply Weak.c2 | apply Weak.c3 | apply Weak.c4 | apply Weak.c5 | apply Weak.c6 | apply Weak.c7 | apply Weak.c8 | apply Weak.c9 | apply Weak.c10 | apply Weak.c11 | apply Weak.drop))⟩)
theorem R13_Need_con (e : M.Ev) (s t : M.Spot) (size : Int) : Con Tryz.prog NoRo 47 #[Ev.v e, Spot.v s, Spot.v t, .int .i64 size] .B [] (M.spotNeed e.off e.wrap e.fl s t size) [] := by
  intro w0 W w B _ h
  refine aqueductref13_Need.calls (e.off, e.wrap, e.fl, ()) (s.at_, s.wrap, ()) (t.at_, t.wrap, ()) size ?_
  unfold aqueductref13_Need.T
  refine t_newB h (by simp [Value.oneCell']) fun w eb h heb => ?_
  refine t_newB h (by simp [Value.oneCell']) fun w sb h hsb => ?_
  refine t_newB h (by simp [Value.oneCell']) fun w tb h htb => ?_
  repeat (first
    | refine t_tickS h fun w h => ?_
    | refine t_keepN ?_
    | refine t_ldB h 0 rfl rfl ?_
    | refine t_ldB h 1 rfl rfl ?_
    | refine t_ldB h 2 rfl rfl ?_
    | refine t_ldB h 3 rfl rfl ?_
    | refine t_ldB h 4 rfl rfl ?_
    | refine t_ldB h 5 rfl rfl ?_
    | refine t_ldB h 6 rfl rfl ?_
    | refine t_ldB h 7 rfl rfl ?_
    | refine t_ldB h 8 rfl rfl ?_
    | refine t_ldB h 9 rfl rfl ?_
    | refine t_ldO h 0 rfl rfl rfl ?_
    | refine t_ldO h 1 rfl rfl rfl ?_
    | refine t_ldO h 2 rfl rfl rfl ?_
    | refine t_ldO h 3 rfl rfl rfl ?_
    | refine t_ldO h 4 rfl rfl rfl ?_
    | refine t_ldO h 5 rfl rfl rfl ?_
    | refine t_ldO h 6 rfl rfl rfl ?_
    | refine t_ldO h 7 rfl rfl rfl ?_
    | refine t_ldO h 8 rfl rfl rfl ?_
    | refine t_ldO h 9 rfl rfl rfl ?_
    | refine t_keepB h 0 rfl rfl ?_
    | refine t_keepB h 1 rfl rfl ?_
    | refine t_keepB h 2 rfl rfl ?_
    | refine t_keepB h 3 rfl rfl ?_
    | refine t_keepB h 4 rfl rfl ?_
    | refine t_keepB h 5 rfl rfl ?_
    | refine t_keepB h 6 rfl rfl ?_
    | refine t_keepB h 7 rfl rfl ?_
    | refine t_keepB h 8 rfl rfl ?_
    | refine t_keepB h 9 rfl rfl ?_
    | (refine t_stB h 0 rfl (by simp [setL]) (by simp [Value.oneCell']) fun w h => ?_; try dsimp only [List.set, setL, List.eraseIdx, List.cons_append, List.nil_append, List.append_nil, Nat.zero_add, Nat.reduceAdd, Sl.v] at h)
    | (refine t_stB h 1 rfl (by simp [setL]) (by simp [Value.oneCell']) fun w h => ?_; try dsimp only [List.set, setL, List.eraseIdx, List.cons_append, List.nil_append, List.append_nil, Nat.zero_add, Nat.reduceAdd, Sl.v] at h)
    | (refine t_stB h 2 rfl (by simp [setL]) (by simp [Value.oneCell']) fun w h => ?_; try dsimp only [List.set, setL, List.eraseIdx, List.cons_append, List.nil_append, List.append_nil, Nat.zero_add, Nat.reduceAdd, Sl.v] at h)
    | (refine t_stB h 3 rfl (by simp [setL]) (by simp [Value.oneCell']) fun w h => ?_; try dsimp only [List.set, setL, List.eraseIdx, List.cons_append, List.nil_append, List.append_nil, Nat.zero_add, Nat.reduceAdd, Sl.v] at h)
    | (refine t_stB h 4 rfl (by simp [setL]) (by simp [Value.oneCell']) fun w h => ?_; try dsimp only [List.set, setL, List.eraseIdx, List.cons_append, List.nil_append, List.append_nil, Nat.zero_add, Nat.reduceAdd, Sl.v] at h)
    | (refine t_stB h 5 rfl (by simp [setL]) (by simp [Value.oneCell']) fun w h => ?_; try dsimp only [List.set, setL, List.eraseIdx, List.cons_append, List.nil_append, List.append_nil, Nat.zero_add, Nat.reduceAdd, Sl.v] at h)
    | (refine t_stB h 6 rfl (by simp [setL]) (by simp [Value.oneCell']) fun w h => ?_; try dsimp only [List.set, setL, List.eraseIdx, List.cons_append, List.nil_append, List.append_nil, Nat.zero_add, Nat.reduceAdd, Sl.v] at h)
    | (refine t_stB h 7 rfl (by simp [setL]) (by simp [Value.oneCell']) fun w h => ?_; try dsimp only [List.set, setL, List.eraseIdx, List.cons_append, List.nil_append, List.append_nil, Nat.zero_add, Nat.reduceAdd, Sl.v] at h)
    | (refine t_stB h 8 rfl (by simp [setL]) (by simp [Value.oneCell']) fun w h => ?_; try dsimp only [List.set, setL, List.eraseIdx, List.cons_append, List.nil_append, List.append_nil, Nat.zero_add, Nat.reduceAdd, Sl.v] at h)
    | (refine t_stB h 9 rfl (by simp [setL]) (by simp [Value.oneCell']) fun w h => ?_; try dsimp only [List.set, setL, List.eraseIdx, List.cons_append, List.nil_append, List.append_nil, Nat.zero_add, Nat.reduceAdd, Sl.v] at h)
    | refine t_newB h (by simp [Value.oneCell']) fun w b h hb => ?_
    | refine t_nil ?_
    | refine t_true rfl ?_
    | refine t_false rfl ?_
    | refine t_yes rfl ?_
    | refine t_nyes rfl ?_
    | refine t_no (by decide) ?_
    | refine t_nno (by decide) ?_
    | refine t_need (by decide) ?_)
  try dsimp only [List.set, setL, List.eraseIdx, List.cons_append, List.nil_append, List.append_nil, Nat.zero_add, Nat.reduceAdd, Sl.v] at h
  first | refine t_fn (R13_Gap_con s t size) h (by repeat (first | exact Sub.nil _ | apply Sub.c0 | apply Sub.c1 | apply Sub.c2 | apply Sub.c3 | apply Sub.c4 | apply Sub.c5 | apply Sub.c6 | apply Sub.c7 | apply Sub.c8 | apply Sub.c9 | apply Sub.c10 | apply Sub.c11 | exact Sub.refl _)) noRo fun w h => ?_ | refine t_fnn (R13_Gap_con s t size) h (by repeat (first | exact Sub.nil _ | apply Sub.c0 | apply Sub.c1 | apply Sub.c2 | apply Sub.c3 | apply Sub.c4 | apply Sub.c5 | apply Sub.c6 | apply Sub.c7 | apply Sub.c8 | apply Sub.c9 | apply Sub.c10 | apply Sub.c11 | exact Sub.refl _)) noRo fun w h => ?_
  try dsimp only [List.set, setL, List.eraseIdx, List.cons_append, List.nil_append, List.append_nil, Nat.zero_add, Nat.reduceAdd, Sl.v] at h
  have hG : M.spotNeed e.off e.wrap e.fl s t size = if (M.spotGap s t size).2 ≠ 0 ∨ size < (M.spotGap s t size).1 then false else if e.fl = 0 then decide (s ≠ t) else if e.fl = 2 then decide ((M.spotGap s ⟨e.off, e.wrap⟩ size).2 = 0 ∧ (M.spotGap s ⟨e.off, e.wrap⟩ size).1 < (M.spotGap s t size).1) else false := rfl
  refine t_ifn (fun c1 => t_ret ⟨?_, h.weak (by repeat (first | exact Weak.refl _ | apply Weak.c0 | apply Weak.c1 | apply Weak.c2 | apply Weak.c3 | apply Weak.c4 | apply Weak.c5 | apply Weak.c6 | apply Weak.c7 | apply Weak.c8 | apply Weak.c9 | apply Weak.c10 | apply Weak.c11 | apply Weak.drop))⟩) (fun c1 => ?_)
  · rw [hG, if_pos (.inl c1)]; rfl
  refine t_if (fun c2 => t_ret ⟨?_, h.weak (by repeat (first | exact Weak.refl _ | apply Weak.c0 | apply Weak.c1 | apply Weak.c2 | apply Weak.c3 | apply Weak.c4 | apply Weak.c5 | apply Weak.c6 | apply Weak.c7 | apply Weak.c8 | apply Weak.c9 | apply Weak.c10 | apply Weak.c11 | apply Weak.drop))⟩) (fun c2 => ?_)
  · rw [hG, if_pos (.inr c2)]; rfl
  rw [if_neg (by rintro (c | c); exact c c1; exact c2 c)] at hG
  have hck : M.spotCheck s size = 0 ∧ M.spotCheck t size = 0 := by
    unfold M.spotGap at c1
    split at c1
    · rename_i x; exact absurd c1 x
    · split at c1
      · rename_i x; exact absurd c1 x
      · rename_i x y; exact ⟨by simpa using x, by simpa using y⟩
  obtain ⟨h1, hs⟩ := spotCheck_size hck.1
  have ht := (spotCheck_size hck.2).2
  have hr := gapN_range h1.1 hs ht
  rw [spotGap_ok h1 hs ht] at *
  dsimp only at *
  repeat (first
    | refine t_tickS h fun w h => ?_
    | refine t_keepN ?_
    | refine t_ldB h 0 rfl rfl ?_
    | refine t_ldB h 1 rfl rfl ?_
    | refine t_ldB h 2 rfl rfl ?_
    | refine t_ldB h 3 rfl rfl ?_
    | refine t_ldB h 4 rfl rfl ?_
    | refine t_ldB h 5 rfl rfl ?_
    | refine t_ldB h 6 rfl rfl ?_
    | refine t_ldB h 7 rfl rfl ?_
    | refine t_ldB h 8 rfl rfl ?_
    | refine t_ldB h 9 rfl rfl ?_
    | refine t_ldO h 0 rfl rfl rfl ?_
    | refine t_ldO h 1 rfl rfl rfl ?_
    | refine t_ldO h 2 rfl rfl rfl ?_
    | refine t_ldO h 3 rfl rfl rfl ?_
    | refine t_ldO h 4 rfl rfl rfl ?_
    | refine t_ldO h 5 rfl rfl rfl ?_
    | refine t_ldO h 6 rfl rfl rfl ?_
    | refine t_ldO h 7 rfl rfl rfl ?_
    | refine t_ldO h 8 rfl rfl rfl ?_
    | refine t_ldO h 9 rfl rfl rfl ?_
    | refine t_keepB h 0 rfl rfl ?_
    | refine t_keepB h 1 rfl rfl ?_
    | refine t_keepB h 2 rfl rfl ?_
    | refine t_keepB h 3 rfl rfl ?_
    | refine t_keepB h 4 rfl rfl ?_
    | refine t_keepB h 5 rfl rfl ?_
    | refine t_keepB h 6 rfl rfl ?_
    | refine t_keepB h 7 rfl rfl ?_
    | refine t_keepB h 8 rfl rfl ?_
    | refine t_keepB h 9 rfl rfl ?_
    | (refine t_stB h 0 rfl (by simp [setL]) (by simp [Value.oneCell']) fun w h => ?_; try dsimp only [List.set, setL, List.eraseIdx, List.cons_append, List.nil_append, List.append_nil, Nat.zero_add, Nat.reduceAdd, Sl.v] at h)
    | (refine t_stB h 1 rfl (by simp [setL]) (by simp [Value.oneCell']) fun w h => ?_; try dsimp only [List.set, setL, List.eraseIdx, List.cons_append, List.nil_append, List.append_nil, Nat.zero_add, Nat.reduceAdd, Sl.v] at h)
    | (refine t_stB h 2 rfl (by simp [setL]) (by simp [Value.oneCell']) fun w h => ?_; try dsimp only [List.set, setL, List.eraseIdx, List.cons_append, List.nil_append, List.append_nil, Nat.zero_add, Nat.reduceAdd, Sl.v] at h)
    | (refine t_stB h 3 rfl (by simp [setL]) (by simp [Value.oneCell']) fun w h => ?_; try dsimp only [List.set, setL, List.eraseIdx, List.cons_append, List.nil_append, List.append_nil, Nat.zero_add, Nat.reduceAdd, Sl.v] at h)
    | (refine t_stB h 4 rfl (by simp [setL]) (by simp [Value.oneCell']) fun w h => ?_; try dsimp only [List.set, setL, List.eraseIdx, List.cons_append, List.nil_append, List.append_nil, Nat.zero_add, Nat.reduceAdd, Sl.v] at h)
    | (refine t_stB h 5 rfl (by simp [setL]) (by simp [Value.oneCell']) fun w h => ?_; try dsimp only [List.set, setL, List.eraseIdx, List.cons_append, List.nil_append, List.append_nil, Nat.zero_add, Nat.reduceAdd, Sl.v] at h)
    | (refine t_stB h 6 rfl (by simp [setL]) (by simp [Value.oneCell']) fun w h => ?_; try dsimp only [List.set, setL, List.eraseIdx, List.cons_append, List.nil_append, List.append_nil, Nat.zero_add, Nat.reduceAdd, Sl.v] at h)
    | (refine t_stB h 7 rfl (by simp [setL]) (by simp [Value.oneCell']) fun w h => ?_; try dsimp only [List.set, setL, List.eraseIdx, List.cons_append, List.nil_append, List.append_nil, Nat.zero_add, Nat.reduceAdd, Sl.v] at h)
    | (refine t_stB h 8 rfl (by simp [setL]) (by simp [Value.oneCell']) fun w h => ?_; try dsimp only [List.set, setL, List.eraseIdx, List.cons_append, List.nil_append, List.append_nil, Nat.zero_add, Nat.reduceAdd, Sl.v] at h)
    | (refine t_stB h 9 rfl (by simp [setL]) (by simp [Value.oneCell']) fun w h => ?_; try dsimp only [List.set, setL, List.eraseIdx, List.cons_append, List.nil_append, List.append_nil, Nat.zero_add, Nat.reduceAdd, Sl.v] at h)
    | refine t_newB h (by simp [Value.oneCell']) fun w b h hb => ?_
    | refine t_nil ?_
    | refine t_true rfl ?_
    | refine t_false rfl ?_
    | refine t_yes rfl ?_
    | refine t_nyes rfl ?_
    | refine t_no (by decide) ?_
    | refine t_nno (by decide) ?_
    | refine t_need (by decide) ?_)
  try dsimp only [List.set, setL, List.eraseIdx, List.cons_append, List.nil_append, List.append_nil, Nat.zero_add, Nat.reduceAdd, Sl.v] at h
  refine t_if (fun c3 => t_ret ⟨?_, h.weak (by repeat (first | exact Weak.refl _ | apply Weak.c0 | apply Weak.c1 | apply Weak.c2 | apply Weak.c3 | apply Weak.c4 | apply Weak.c5 | apply Weak.c6 | apply Weak.c7 | apply Weak.c8 | apply Weak.c9 | apply Weak.c10 | apply Weak.c11 | apply Weak.drop))⟩) (fun c3 => ?_)
  · rw [hG, if_pos c3]
    have := gapN_zero h1.1 hs ht
    by_cases hst : s = t
    · simp [hst, this.2 hst, (gapN_zero h1.1 ht ht).2 rfl]; rfl
    · have h0 : M.gapN s t size ≠ 0 := fun h => hst (this.1 h)
      simp [hst, show 0 < M.gapN s t size by omega]; rfl
  rw [if_neg c3] at hG
  generalize M.gapN s t size = g at *
  -- as far as the place is not met
  refine t_loop (fun m st w' => ∃ (k : Nat) (x : M.Spot), (k : Int) ≤ g ∧ m = g.toNat - k ∧ st = ((k : Int), ()) ∧ x.In size ∧ (e.fl = 2 → M.Spot.In ⟨e.off, e.wrap⟩ size → (k : Int) ≤ M.gapN s ⟨e.off, e.wrap⟩ size ∧ M.gapN x ⟨e.off, e.wrap⟩ size = M.gapN s ⟨e.off, e.wrap⟩ size - k) ∧ St w0 W w' (blkR tb [.int .i64 t.at_, .bool t.wrap] 44 :: blkR sb [.int .i64 x.at_, .bool x.wrap] 44 :: blkR eb [.int .i64 e.off, .bool e.wrap, .int .i64 e.fl] 34 :: B)) g.toNat ⟨0, s, by omega, rfl, rfl, hs, fun _ hE => ⟨by have := gapN_range h1.1 hs hE; omega, by omega⟩, h⟩ ?_
  clear h
  rintro m st w ⟨k, x, hk, rfl, rfl, hx, hg, h⟩ Ks hJ _
  dsimp only
  refine t_if (fun c4 => ?_) (fun c4 => ?_)
  · have step : ∀ w', (e.fl = 2 → x ≠ ⟨e.off, e.wrap⟩) → St w0 W w' (blkR tb [.int .i64 t.at_, .bool t.wrap] 44 :: blkR sb [.int .i64 (M.spotOne x size).at_, .bool (M.spotOne x size).wrap] 44 :: blkR eb [.int .i64 e.off, .bool e.wrap, .int .i64 e.fl] 34 :: B) → Ks 0 [.int .i64 (IntKind.i64.wrap ((k : Int) + 1))] w' := by
      intro w' hne hst
      rw [w64 (n := (k : Int) + 1) (by omega)]
      refine hJ (g.toNat - (k + 1)) (((k + 1 : Nat) : Int), ()) w' (by omega) ⟨k + 1, M.spotOne x size, by omega, rfl, rfl, one_in hx, fun h2 hE => ?_, hst⟩
      have h3 := gapN_one h1.1 hx hE (hne h2)
      have h4 := gapN_range h1.1 (one_in hx) hE
      have h5 := hg h2 hE
      omega
    repeat (first
      | refine t_tickS h fun w h => ?_
      | refine t_keepN ?_
      | refine t_ldB h 0 rfl rfl ?_
      | refine t_ldB h 1 rfl rfl ?_
      | refine t_ldB h 2 rfl rfl ?_
      | refine t_ldB h 3 rfl rfl ?_
      | refine t_ldB h 4 rfl rfl ?_
      | refine t_ldB h 5 rfl rfl ?_
      | refine t_ldB h 6 rfl rfl ?_
      | refine t_ldB h 7 rfl rfl ?_
      | refine t_ldB h 8 rfl rfl ?_
      | refine t_ldB h 9 rfl rfl ?_
      | refine t_ldO h 0 rfl rfl rfl ?_
      | refine t_ldO h 1 rfl rfl rfl ?_
      | refine t_ldO h 2 rfl rfl rfl ?_
      | refine t_ldO h 3 rfl rfl rfl ?_
      | refine t_ldO h 4 rfl rfl rfl ?_
      | refine t_ldO h 5 rfl rfl rfl ?_
      | refine t_ldO h 6 rfl rfl rfl ?_
      | refine t_ldO h 7 rfl rfl rfl ?_
      | refine t_ldO h 8 rfl rfl rfl ?_
      | refine t_ldO h 9 rfl rfl rfl ?_
      | refine t_keepB h 0 rfl rfl ?_
      | refine t_keepB h 1 rfl rfl ?_
      | refine t_keepB h 2 rfl rfl ?_
      | refine t_keepB h 3 rfl rfl ?_
      | refine t_keepB h 4 rfl rfl ?_
      | refine t_keepB h 5 rfl rfl ?_
      | refine t_keepB h 6 rfl rfl ?_
      | refine t_keepB h 7 rfl rfl ?_
      | refine t_keepB h 8 rfl rfl ?_
      | refine t_keepB h 9 rfl rfl ?_
      | (refine t_stB h 0 rfl (by simp [setL]) (by simp [Value.oneCell']) fun w h => ?_; try dsimp only [List.set, setL, List.eraseIdx, List.cons_append, List.nil_append, List.append_nil, Nat.zero_add, Nat.reduceAdd, Sl.v] at h)
      | (refine t_stB h 1 rfl (by simp [setL]) (by simp [Value.oneCell']) fun w h => ?_; try dsimp only [List.set, setL, List.eraseIdx, List.cons_append, List.nil_append, List.append_nil, Nat.zero_add, Nat.reduceAdd, Sl.v] at h)
      | (refine t_stB h 2 rfl (by simp [setL]) (by simp [Value.oneCell']) fun w h => ?_; try dsimp only [List.set, setL, List.eraseIdx, List.cons_append, List.nil_append, List.append_nil, Nat.zero_add, Nat.reduceAdd, Sl.v] at h)
      | (refine t_stB h 3 rfl (by simp [setL]) (by simp [Value.oneCell']) fun w h => ?_; try dsimp only [List.set, setL, List.eraseIdx, List.cons_append, List.nil_append, List.append_nil, Nat.zero_add, Nat.reduceAdd, Sl.v] at h)
      | (refine t_stB h 4 rfl (by simp [setL]) (by simp [Value.oneCell']) fun w h => ?_; try dsimp only [List.set, setL, List.eraseIdx, List.cons_append, List.nil_append, List.append_nil, Nat.zero_add, Nat.reduceAdd, Sl.v] at h)
      | (refine t_stB h 5 rfl (by simp [setL]) (by simp [Value.oneCell']) fun w h => ?_; try dsimp only [List.set, setL, List.eraseIdx, List.cons_append, List.nil_append, List.append_nil, Nat.zero_add, Nat.reduceAdd, Sl.v] at h)
      | (refine t_stB h 6 rfl (by simp [setL]) (by simp [Value.oneCell']) fun w h => ?_; try dsimp only [List.set, setL, List.eraseIdx, List.cons_append, List.nil_append, List.append_nil, Nat.zero_add, Nat.reduceAdd, Sl.v] at h)
      | (refine t_stB h 7 rfl (by simp [setL]) (by simp [Value.oneCell']) fun w h => ?_; try dsimp only [List.set, setL, List.eraseIdx, List.cons_append, List.nil_append, List.append_nil, Nat.zero_add, Nat.reduceAdd, Sl.v] at h)
      | (refine t_stB h 8 rfl (by simp [setL]) (by simp [Value.oneCell']) fun w h => ?_; try dsimp only [List.set, setL, List.eraseIdx, List.cons_append, List.nil_append, List.append_nil, Nat.zero_add, Nat.reduceAdd, Sl.v] at h)
      | (refine t_stB h 9 rfl (by simp [setL]) (by simp [Value.oneCell']) fun w h => ?_; try dsimp only [List.set, setL, List.eraseIdx, List.cons_append, List.nil_append, List.append_nil, Nat.zero_add, Nat.reduceAdd, Sl.v] at h)
      | refine t_newB h (by simp [Value.oneCell']) fun w b h hb => ?_
      | refine t_nil ?_
      | refine t_true rfl ?_
      | refine t_false rfl ?_
      | refine t_yes rfl ?_
      | refine t_nyes rfl ?_
      | refine t_no (by decide) ?_
      | refine t_nno (by decide) ?_
      | refine t_need (by decide) ?_)
    try dsimp only [List.set, setL, List.eraseIdx, List.cons_append, List.nil_append, List.append_nil, Nat.zero_add, Nat.reduceAdd, Sl.v] at h
    refine t_if (fun c5 => ?_) (fun c5 => ?_)
    · repeat (first
        | refine t_tickS h fun w h => ?_
        | refine t_keepN ?_
        | refine t_ldB h 0 rfl rfl ?_
        | refine t_ldB h 1 rfl rfl ?_
        | refine t_ldB h 2 rfl rfl ?_
        | refine t_ldB h 3 rfl rfl ?_
        | refine t_ldB h 4 rfl rfl ?_
        | refine t_ldB h 5 rfl rfl ?_
        | refine t_ldB h 6 rfl rfl ?_
        | refine t_ldB h 7 rfl rfl ?_
        | refine t_ldB h 8 rfl rfl ?_
        | refine t_ldB h 9 rfl rfl ?_
        | refine t_ldO h 0 rfl rfl rfl ?_
        | refine t_ldO h 1 rfl rfl rfl ?_
        | refine t_ldO h 2 rfl rfl rfl ?_
        | refine t_ldO h 3 rfl rfl rfl ?_
        | refine t_ldO h 4 rfl rfl rfl ?_
        | refine t_ldO h 5 rfl rfl rfl ?_
        | refine t_ldO h 6 rfl rfl rfl ?_
        | refine t_ldO h 7 rfl rfl rfl ?_
        | refine t_ldO h 8 rfl rfl rfl ?_
        | refine t_ldO h 9 rfl rfl rfl ?_
        | refine t_keepB h 0 rfl rfl ?_
        | refine t_keepB h 1 rfl rfl ?_
        | refine t_keepB h 2 rfl rfl ?_
        | refine t_keepB h 3 rfl rfl ?_
        | refine t_keepB h 4 rfl rfl ?_
        | refine t_keepB h 5 rfl rfl ?_
        | refine t_keepB h 6 rfl rfl ?_
        | refine t_keepB h 7 rfl rfl ?_
        | refine t_keepB h 8 rfl rfl ?_
        | refine t_keepB h 9 rfl rfl ?_
        | (refine t_stB h 0 rfl (by simp [setL]) (by simp [Value.oneCell']) fun w h => ?_; try dsimp only [List.set, setL, List.eraseIdx, List.cons_append, List.nil_append, List.append_nil, Nat.zero_add, Nat.reduceAdd, Sl.v] at h)
        | (refine t_stB h 1 rfl (by simp [setL]) (by simp [Value.oneCell']) fun w h => ?_; try dsimp only [List.set, setL, List.eraseIdx, List.cons_append, List.nil_append, List.append_nil, Nat.zero_add, Nat.reduceAdd, Sl.v] at h)
        | (refine t_stB h 2 rfl (by simp [setL]) (by simp [Value.oneCell']) fun w h => ?_; try dsimp only [List.set, setL, List.eraseIdx, List.cons_append, List.nil_append, List.append_nil, Nat.zero_add, Nat.reduceAdd, Sl.v] at h)
        | (refine t_stB h 3 rfl (by simp [setL]) (by simp [Value.oneCell']) fun w h => ?_; try dsimp only [List.set, setL, List.eraseIdx, List.cons_append, List.nil_append, List.append_nil, Nat.zero_add, Nat.reduceAdd, Sl.v] at h)
        | (refine t_stB h 4 rfl (by simp [setL]) (by simp [Value.oneCell']) fun w h => ?_; try dsimp only [List.set, setL, List.eraseIdx, List.cons_append, List.nil_append, List.append_nil, Nat.zero_add, Nat.reduceAdd, Sl.v] at h)
        | (refine t_stB h 5 rfl (by simp [setL]) (by simp [Value.oneCell']) fun w h => ?_; try dsimp only [List.set, setL, List.eraseIdx, List.cons_append, List.nil_append, List.append_nil, Nat.zero_add, Nat.reduceAdd, Sl.v] at h)
        | (refine t_stB h 6 rfl (by simp [setL]) (by simp [Value.oneCell']) fun w h => ?_; try dsimp only [List.set, setL, List.eraseIdx, List.cons_append, List.nil_append, List.append_nil, Nat.zero_add, Nat.reduceAdd, Sl.v] at h)
        | (refine t_stB h 7 rfl (by simp [setL]) (by simp [Value.oneCell']) fun w h => ?_; try dsimp only [List.set, setL, List.eraseIdx, List.cons_append, List.nil_append, List.append_nil, Nat.zero_add, Nat.reduceAdd, Sl.v] at h)
        | (refine t_stB h 8 rfl (by simp [setL]) (by simp [Value.oneCell']) fun w h => ?_; try dsimp only [List.set, setL, List.eraseIdx, List.cons_append, List.nil_append, List.append_nil, Nat.zero_add, Nat.reduceAdd, Sl.v] at h)
        | (refine t_stB h 9 rfl (by simp [setL]) (by simp [Value.oneCell']) fun w h => ?_; try dsimp only [List.set, setL, List.eraseIdx, List.cons_append, List.nil_append, List.append_nil, Nat.zero_add, Nat.reduceAdd, Sl.v] at h)
        | refine t_newB h (by simp [Value.oneCell']) fun w b h hb => ?_
        | refine t_nil ?_
        | refine t_true rfl ?_
        | refine t_false rfl ?_
        | refine t_yes rfl ?_
        | refine t_nyes rfl ?_
        | refine t_no (by decide) ?_
        | refine t_nno (by decide) ?_
        | refine t_need (by decide) ?_)
      try dsimp only [List.set, setL, List.eraseIdx, List.cons_append, List.nil_append, List.append_nil, Nat.zero_add, Nat.reduceAdd, Sl.v] at h
      refine t_if (fun c6 => ?_) (fun c6 => ?_)
      · repeat (first
          | refine t_tickS h fun w h => ?_
          | refine t_keepN ?_
          | refine t_ldB h 0 rfl rfl ?_
          | refine t_ldB h 1 rfl rfl ?_
          | refine t_ldB h 2 rfl rfl ?_
          | refine t_ldB h 3 rfl rfl ?_
          | refine t_ldB h 4 rfl rfl ?_
          | refine t_ldB h 5 rfl rfl ?_
          | refine t_ldB h 6 rfl rfl ?_
          | refine t_ldB h 7 rfl rfl ?_
          | refine t_ldB h 8 rfl rfl ?_
          | refine t_ldB h 9 rfl rfl ?_
          | refine t_ldO h 0 rfl rfl rfl ?_
          | refine t_ldO h 1 rfl rfl rfl ?_
          | refine t_ldO h 2 rfl rfl rfl ?_
          | refine t_ldO h 3 rfl rfl rfl ?_
          | refine t_ldO h 4 rfl rfl rfl ?_
          | refine t_ldO h 5 rfl rfl rfl ?_
          | refine t_ldO h 6 rfl rfl rfl ?_
          | refine t_ldO h 7 rfl rfl rfl ?_
          | refine t_ldO h 8 rfl rfl rfl ?_
          | refine t_ldO h 9 rfl rfl rfl ?_
          | refine t_keepB h 0 rfl rfl ?_
          | refine t_keepB h 1 rfl rfl ?_
          | refine t_keepB h 2 rfl rfl ?_
          | refine t_keepB h 3 rfl rfl ?_
          | refine t_keepB h 4 rfl rfl ?_
          | refine t_keepB h 5 rfl rfl ?_
          | refine t_keepB h 6 rfl rfl ?_
          | refine t_keepB h 7 rfl rfl ?_
          | refine t_keepB h 8 rfl rfl ?_
          | refine t_keepB h 9 rfl rfl ?_
          | (refine t_stB h 0 rfl (by simp [setL]) (by simp [Value.oneCell']) fun w h => ?_; try dsimp only [List.set, setL, List.eraseIdx, List.cons_append, List.nil_append, List.append_nil, Nat.zero_add, Nat.reduceAdd, Sl.v] at h)
          | (refine t_stB h 1 rfl (by simp [setL]) (by simp [Value.oneCell']) fun w h => ?_; try dsimp only [List.set, setL, List.eraseIdx, List.cons_append, List.nil_append, List.append_nil, Nat.zero_add, Nat.reduceAdd, Sl.v] at h)
          | (refine t_stB h 2 rfl (by simp [setL]) (by simp [Value.oneCell']) fun w h => ?_; try dsimp only [List.set, setL, List.eraseIdx, List.cons_append, List.nil_append, List.append_nil, Nat.zero_add, Nat.reduceAdd, Sl.v] at h)
          | (refine t_stB h 3 rfl (by simp [setL]) (by simp [Value.oneCell']) fun w h => ?_; try dsimp only [List.set, setL, List.eraseIdx, List.cons_append, List.nil_append, List.append_nil, Nat.zero_add, Nat.reduceAdd, Sl.v] at h)
          | (refine t_stB h 4 rfl (by simp [setL]) (by simp [Value.oneCell']) fun w h => ?_; try dsimp only [List.set, setL, List.eraseIdx, List.cons_append, List.nil_append, List.append_nil, Nat.zero_add, Nat.reduceAdd, Sl.v] at h)
          | (refine t_stB h 5 rfl (by simp [setL]) (by simp [Value.oneCell']) fun w h => ?_; try dsimp only [List.set, setL, List.eraseIdx, List.cons_append, List.nil_append, List.append_nil, Nat.zero_add, Nat.reduceAdd, Sl.v] at h)
          | (refine t_stB h 6 rfl (by simp [setL]) (by simp [Value.oneCell']) fun w h => ?_; try dsimp only [List.set, setL, List.eraseIdx, List.cons_append, List.nil_append, List.append_nil, Nat.zero_add, Nat.reduceAdd, Sl.v] at h)
          | (refine t_stB h 7 rfl (by simp [setL]) (by simp [Value.oneCell']) fun w h => ?_; try dsimp only [List.set, setL, List.eraseIdx, List.cons_append, List.nil_append, List.append_nil, Nat.zero_add, Nat.reduceAdd, Sl.v] at h)
          | (refine t_stB h 8 rfl (by simp [setL]) (by simp [Value.oneCell']) fun w h => ?_; try dsimp only [List.set, setL, List.eraseIdx, List.cons_append, List.nil_append, List.append_nil, Nat.zero_add, Nat.reduceAdd, Sl.v] at h)
          | (refine t_stB h 9 rfl (by simp [setL]) (by simp [Value.oneCell']) fun w h => ?_; try dsimp only [List.set, setL, List.eraseIdx, List.cons_append, List.nil_append, List.append_nil, Nat.zero_add, Nat.reduceAdd, Sl.v] at h)
          | refine t_newB h (by simp [Value.oneCell']) fun w b h hb => ?_
          | refine t_nil ?_
          | refine t_true rfl ?_
          | refine t_false rfl ?_
          | refine t_yes rfl ?_
          | refine t_nyes rfl ?_
          | refine t_no (by decide) ?_
          | refine t_nno (by decide) ?_
          | refine t_need (by decide) ?_)
        try dsimp only [List.set, setL, List.eraseIdx, List.cons_append, List.nil_append, List.append_nil, Nat.zero_add, Nat.reduceAdd, Sl.v] at h
        refine t_cond (fun c7 => t_ret ⟨?_, h.weak (by repeat (first | exact Weak.refl _ | apply Weak.c0 | apply Weak.c1 | apply Weak.c2 | apply Weak.c3 | apply Weak.c4 | apply Weak.c5 | apply Weak.c6 | apply Weak.c7 | apply Weak.c8 | apply Weak.c9 | apply Weak.c10 | apply Weak.c11 | apply Weak.drop))⟩) (fun c7 => ?_)
        · have hxe : x = ⟨e.off, e.wrap⟩ := spot_ext.2 ⟨c6, by simpa using c7⟩
          have hE : M.Spot.In ⟨e.off, e.wrap⟩ size := hxe ▸ hx
          have h5 := hg c5 hE
          have h6 := (gapN_zero h1.1 hx hE).2 hxe
          rw [hG, if_pos c5, spotGap_ok h1 hs hE]
          simp; rw [show M.gapN s ⟨e.off, e.wrap⟩ size < g by omega |> decide_eq_true]; rfl
        · repeat (first
            | refine t_tickS h fun w h => ?_
            | refine t_keepN ?_
            | refine t_ldB h 0 rfl rfl ?_
            | refine t_ldB h 1 rfl rfl ?_
            | refine t_ldB h 2 rfl rfl ?_
            | refine t_ldB h 3 rfl rfl ?_
            | refine t_ldB h 4 rfl rfl ?_
            | refine t_ldB h 5 rfl rfl ?_
            | refine t_ldB h 6 rfl rfl ?_
            | refine t_ldB h 7 rfl rfl ?_
            | refine t_ldB h 8 rfl rfl ?_
            | refine t_ldB h 9 rfl rfl ?_
            | refine t_ldO h 0 rfl rfl rfl ?_
            | refine t_ldO h 1 rfl rfl rfl ?_
            | refine t_ldO h 2 rfl rfl rfl ?_
            | refine t_ldO h 3 rfl rfl rfl ?_
            | refine t_ldO h 4 rfl rfl rfl ?_
            | refine t_ldO h 5 rfl rfl rfl ?_
            | refine t_ldO h 6 rfl rfl rfl ?_
            | refine t_ldO h 7 rfl rfl rfl ?_
            | refine t_ldO h 8 rfl rfl rfl ?_
            | refine t_ldO h 9 rfl rfl rfl ?_
            | refine t_keepB h 0 rfl rfl ?_
            | refine t_keepB h 1 rfl rfl ?_
            | refine t_keepB h 2 rfl rfl ?_
            | refine t_keepB h 3 rfl rfl ?_
            | refine t_keepB h 4 rfl rfl ?_
            | refine t_keepB h 5 rfl rfl ?_
            | refine t_keepB h 6 rfl rfl ?_
            | refine t_keepB h 7 rfl rfl ?_
            | refine t_keepB h 8 rfl rfl ?_
            | refine t_keepB h 9 rfl rfl ?_
            | (refine t_stB h 0 rfl (by simp [setL]) (by simp [Value.oneCell']) fun w h => ?_; try dsimp only [List.set, setL, List.eraseIdx, List.cons_append, List.nil_append, List.append_nil, Nat.zero_add, Nat.reduceAdd, Sl.v] at h)
            | (refine t_stB h 1 rfl (by simp [setL]) (by simp [Value.oneCell']) fun w h => ?_; try dsimp only [List.set, setL, List.eraseIdx, List.cons_append, List.nil_append, List.append_nil, Nat.zero_add, Nat.reduceAdd, Sl.v] at h)
            | (refine t_stB h 2 rfl (by simp [setL]) (by simp [Value.oneCell']) fun w h => ?_; try dsimp only [List.set, setL, List.eraseIdx, List.cons_append, List.nil_append, List.append_nil, Nat.zero_add, Nat.reduceAdd, Sl.v] at h)
            | (refine t_stB h 3 rfl (by simp [setL]) (by simp [Value.oneCell']) fun w h => ?_; try dsimp only [List.set, setL, List.eraseIdx, List.cons_append, List.nil_append, List.append_nil, Nat.zero_add, Nat.reduceAdd, Sl.v] at h)
            | (refine t_stB h 4 rfl (by simp [setL]) (by simp [Value.oneCell']) fun w h => ?_; try dsimp only [List.set, setL, List.eraseIdx, List.cons_append, List.nil_append, List.append_nil, Nat.zero_add, Nat.reduceAdd, Sl.v] at h)
            | (refine t_stB h 5 rfl (by simp [setL]) (by simp [Value.oneCell']) fun w h => ?_; try dsimp only [List.set, setL, List.eraseIdx, List.cons_append, List.nil_append, List.append_nil, Nat.zero_add, Nat.reduceAdd, Sl.v] at h)
            | (refine t_stB h 6 rfl (by simp [setL]) (by simp [Value.oneCell']) fun w h => ?_; try dsimp only [List.set, setL, List.eraseIdx, List.cons_append, List.nil_append, List.append_nil, Nat.zero_add, Nat.reduceAdd, Sl.v] at h)
            | (refine t_stB h 7 rfl (by simp [setL]) (by simp [Value.oneCell']) fun w h => ?_; try dsimp only [List.set, setL, List.eraseIdx, List.cons_append, List.nil_append, List.append_nil, Nat.zero_add, Nat.reduceAdd, Sl.v] at h)
            | (refine t_stB h 8 rfl (by simp [setL]) (by simp [Value.oneCell']) fun w h => ?_; try dsimp only [List.set, setL, List.eraseIdx, List.cons_append, List.nil_append, List.append_nil, Nat.zero_add, Nat.reduceAdd, Sl.v] at h)
            | (refine t_stB h 9 rfl (by simp [setL]) (by simp [Value.oneCell']) fun w h => ?_; try dsimp only [List.set, setL, List.eraseIdx, List.cons_append, List.nil_append, List.append_nil, Nat.zero_add, Nat.reduceAdd, Sl.v] at h)
            | refine t_newB h (by simp [Value.oneCell']) fun w b h hb => ?_
            | refine t_nil ?_
            | refine t_true rfl ?_
            | refine t_false rfl ?_
            | refine t_yes rfl ?_
            | refine t_nyes rfl ?_
            | refine t_no (by decide) ?_
            | refine t_nno (by decide) ?_
            | refine t_need (by decide) ?_)
          try dsimp only [List.set, setL, List.eraseIdx, List.cons_append, List.nil_append, List.append_nil, Nat.zero_add, Nat.reduceAdd, Sl.v] at h
          first | refine t_fn (R13_one_con x size h1 hx) h (by repeat (first | exact Sub.nil _ | apply Sub.c0 | apply Sub.c1 | apply Sub.c2 | apply Sub.c3 | apply Sub.c4 | apply Sub.c5 | apply Sub.c6 | apply Sub.c7 | apply Sub.c8 | apply Sub.c9 | apply Sub.c10 | apply Sub.c11 | exact Sub.refl _)) noRo fun w h => ?_ | refine t_fnn (R13_one_con x size h1 hx) h (by repeat (first | exact Sub.nil _ | apply Sub.c0 | apply Sub.c1 | apply Sub.c2 | apply Sub.c3 | apply Sub.c4 | apply Sub.c5 | apply Sub.c6 | apply Sub.c7 | apply Sub.c8 | apply Sub.c9 | apply Sub.c10 | apply Sub.c11 | exact Sub.refl _)) noRo fun w h => ?_
          try dsimp only [List.set, setL, List.eraseIdx, List.cons_append, List.nil_append, List.append_nil, Nat.zero_add, Nat.reduceAdd, Sl.v] at h
          repeat (first
            | refine t_tickS h fun w h => ?_
            | refine t_keepN ?_
            | refine t_ldB h 0 rfl rfl ?_
            | refine t_ldB h 1 rfl rfl ?_
            | refine t_ldB h 2 rfl rfl ?_
            | refine t_ldB h 3 rfl rfl ?_
            | refine t_ldB h 4 rfl rfl ?_
            | refine t_ldB h 5 rfl rfl ?_
            | refine t_ldB h 6 rfl rfl ?_
            | refine t_ldB h 7 rfl rfl ?_
            | refine t_ldB h 8 rfl rfl ?_
            | refine t_ldB h 9 rfl rfl ?_
            | refine t_ldO h 0 rfl rfl rfl ?_
            | refine t_ldO h 1 rfl rfl rfl ?_
            | refine t_ldO h 2 rfl rfl rfl ?_
            | refine t_ldO h 3 rfl rfl rfl ?_
            | refine t_ldO h 4 rfl rfl rfl ?_
            | refine t_ldO h 5 rfl rfl rfl ?_
            | refine t_ldO h 6 rfl rfl rfl ?_
            | refine t_ldO h 7 rfl rfl rfl ?_
            | refine t_ldO h 8 rfl rfl rfl ?_
            | refine t_ldO h 9 rfl rfl rfl ?_
            | refine t_keepB h 0 rfl rfl ?_
            | refine t_keepB h 1 rfl rfl ?_
            | refine t_keepB h 2 rfl rfl ?_
            | refine t_keepB h 3 rfl rfl ?_
            | refine t_keepB h 4 rfl rfl ?_
            | refine t_keepB h 5 rfl rfl ?_
            | refine t_keepB h 6 rfl rfl ?_
            | refine t_keepB h 7 rfl rfl ?_
            | refine t_keepB h 8 rfl rfl ?_
            | refine t_keepB h 9 rfl rfl ?_
            | (refine t_stB h 0 rfl (by simp [setL]) (by simp [Value.oneCell']) fun w h => ?_; try dsimp only [List.set, setL, List.eraseIdx, List.cons_append, List.nil_append, List.append_nil, Nat.zero_add, Nat.reduceAdd, Sl.v] at h)
            | (refine t_stB h 1 rfl (by simp [setL]) (by simp [Value.oneCell']) fun w h => ?_; try dsimp only [List.set, setL, List.eraseIdx, List.cons_append, List.nil_append, List.append_nil, Nat.zero_add, Nat.reduceAdd, Sl.v] at h)
            | (refine t_stB h 2 rfl (by simp [setL]) (by simp [Value.oneCell']) fun w h => ?_; try dsimp only [List.set, setL, List.eraseIdx, List.cons_append, List.nil_append, List.append_nil, Nat.zero_add, Nat.reduceAdd, Sl.v] at h)
            | (refine t_stB h 3 rfl (by simp [setL]) (by simp [Value.oneCell']) fun w h => ?_; try dsimp only [List.set, setL, List.eraseIdx, List.cons_append, List.nil_append, List.append_nil, Nat.zero_add, Nat.reduceAdd, Sl.v] at h)
            | (refine t_stB h 4 rfl (by simp [setL]) (by simp [Value.oneCell']) fun w h => ?_; try dsimp only [List.set, setL, List.eraseIdx, List.cons_append, List.nil_append, List.append_nil, Nat.zero_add, Nat.reduceAdd, Sl.v] at h)
            | (refine t_stB h 5 rfl (by simp [setL]) (by simp [Value.oneCell']) fun w h => ?_; try dsimp only [List.set, setL, List.eraseIdx, List.cons_append, List.nil_append, List.append_nil, Nat.zero_add, Nat.reduceAdd, Sl.v] at h)
            | (refine t_stB h 6 rfl (by simp [setL]) (by simp [Value.oneCell']) fun w h => ?_; try dsimp only [List.set, setL, List.eraseIdx, List.cons_append, List.nil_append, List.append_nil, Nat.zero_add, Nat.reduceAdd, Sl.v] at h)
            | (refine t_stB h 7 rfl (by simp [setL]) (by simp [Value.oneCell']) fun w h => ?_; try dsimp only [List.set, setL, List.eraseIdx, List.cons_append, List.nil_append, List.append_nil, Nat.zero_add, Nat.reduceAdd, Sl.v] at h)
            | (refine t_stB h 8 rfl (by simp [setL]) (by simp [Value.oneCell']) fun w h => ?_; try dsimp only [List.set, setL, List.eraseIdx, List.cons_append, List.nil_append, List.append_nil, Nat.zero_add, Nat.reduceAdd, Sl.v] at h)
            | (refine t_stB h 9 rfl (by simp [setL]) (by simp [Value.oneCell']) fun w h => ?_; try dsimp only [List.set, setL, List.eraseIdx, List.cons_append, List.nil_append, List.append_nil, Nat.zero_add, Nat.reduceAdd, Sl.v] at h)
            | refine t_newB h (by simp [Value.oneCell']) fun w b h hb => ?_
            | refine t_nil ?_
            | refine t_true rfl ?_
            | refine t_false rfl ?_
            | refine t_yes rfl ?_
            | refine t_nyes rfl ?_
            | refine t_no (by decide) ?_
            | refine t_nno (by decide) ?_
            | refine t_need (by decide) ?_)
          try dsimp only [List.set, setL, List.eraseIdx, List.cons_append, List.nil_append, List.append_nil, Nat.zero_add, Nat.reduceAdd, Sl.v] at h
          exact t_next (step _ (fun _ he => by rw [he] at c7; simp at c7) h)
      · repeat (first
          | refine t_tickS h fun w h => ?_
          | refine t_keepN ?_
          | refine t_ldB h 0 rfl rfl ?_
          | refine t_ldB h 1 rfl rfl ?_
          | refine t_ldB h 2 rfl rfl ?_
          | refine t_ldB h 3 rfl rfl ?_
          | refine t_ldB h 4 rfl rfl ?_
          | refine t_ldB h 5 rfl rfl ?_
          | refine t_ldB h 6 rfl rfl ?_
          | refine t_ldB h 7 rfl rfl ?_
          | refine t_ldB h 8 rfl rfl ?_
          | refine t_ldB h 9 rfl rfl ?_
          | refine t_ldO h 0 rfl rfl rfl ?_
          | refine t_ldO h 1 rfl rfl rfl ?_
          | refine t_ldO h 2 rfl rfl rfl ?_
          | refine t_ldO h 3 rfl rfl rfl ?_
          | refine t_ldO h 4 rfl rfl rfl ?_
          | refine t_ldO h 5 rfl rfl rfl ?_
          | refine t_ldO h 6 rfl rfl rfl ?_
          | refine t_ldO h 7 rfl rfl rfl ?_
          | refine t_ldO h 8 rfl rfl rfl ?_
          | refine t_ldO h 9 rfl rfl rfl ?_
          | refine t_keepB h 0 rfl rfl ?_
          | refine t_keepB h 1 rfl rfl ?_
          | refine t_keepB h 2 rfl rfl ?_
          | refine t_keepB h 3 rfl rfl ?_
          | refine t_keepB h 4 rfl rfl ?_
          | refine t_keepB h 5 rfl rfl ?_
          | refine t_keepB h 6 rfl rfl ?_
          | refine t_keepB h 7 rfl rfl ?_
          | refine t_keepB h 8 rfl rfl ?_
          | refine t_keepB h 9 rfl rfl ?_
          | (refine t_stB h 0 rfl (by simp [setL]) (by simp [Value.oneCell']) fun w h => ?_; try dsimp only [List.set, setL, List.eraseIdx, List.cons_append, List.nil_append, List.append_nil, Nat.zero_add, Nat.reduceAdd, Sl.v] at h)
          | (refine t_stB h 1 rfl (by simp [setL]) (by simp [Value.oneCell']) fun w h => ?_; try dsimp only [List.set, setL, List.eraseIdx, List.cons_append, List.nil_append, List.append_nil, Nat.zero_add, Nat.reduceAdd, Sl.v] at h)
          | (refine t_stB h 2 rfl (by simp [setL]) (by simp [Value.oneCell']) fun w h => ?_; try dsimp only [List.set, setL, List.eraseIdx, List.cons_append, List.nil_append, List.append_nil, Nat.zero_add, Nat.reduceAdd, Sl.v] at h)
          | (refine t_stB h 3 rfl (by simp [setL]) (by simp [Value.oneCell']) fun w h => ?_; try dsimp only [List.set, setL, List.eraseIdx, List.cons_append, List.nil_append, List.append_nil, Nat.zero_add, Nat.reduceAdd, Sl.v] at h)
          | (refine t_stB h 4 rfl (by simp [setL]) (by simp [Value.oneCell']) fun w h => ?_; try dsimp only [List.set, setL, List.eraseIdx, List.cons_append, List.nil_append, List.append_nil, Nat.zero_add, Nat.reduceAdd, Sl.v] at h)
          | (refine t_stB h 5 rfl (by simp [setL]) (by simp [Value.oneCell']) fun w h => ?_; try dsimp only [List.set, setL, List.eraseIdx, List.cons_append, List.nil_append, List.append_nil, Nat.zero_add, Nat.reduceAdd, Sl.v] at h)
          | (refine t_stB h 6 rfl (by simp [setL]) (by simp [Value.oneCell']) fun w h => ?_; try dsimp only [List.set, setL, List.eraseIdx, List.cons_append, List.nil_append, List.append_nil, Nat.zero_add, Nat.reduceAdd, Sl.v] at h)
          | (refine t_stB h 7 rfl (by simp [setL]) (by simp [Value.oneCell']) fun w h => ?_; try dsimp only [List.set, setL, List.eraseIdx, List.cons_append, List.nil_append, List.append_nil, Nat.zero_add, Nat.reduceAdd, Sl.v] at h)
          | (refine t_stB h 8 rfl (by simp [setL]) (by simp [Value.oneCell']) fun w h => ?_; try dsimp only [List.set, setL, List.eraseIdx, List.cons_append, List.nil_append, List.append_nil, Nat.zero_add, Nat.reduceAdd, Sl.v] at h)
          | (refine t_stB h 9 rfl (by simp [setL]) (by simp [Value.oneCell']) fun w h => ?_; try dsimp only [List.set, setL, List.eraseIdx, List.cons_append, List.nil_append, List.append_nil, Nat.zero_add, Nat.reduceAdd, Sl.v] at h)
          | refine t_newB h (by simp [Value.oneCell']) fun w b h hb => ?_
          | refine t_nil ?_
          | refine t_true rfl ?_
          | refine t_false rfl ?_
          | refine t_yes rfl ?_
          | refine t_nyes rfl ?_
          | refine t_no (by decide) ?_
          | refine t_nno (by decide) ?_
          | refine t_need (by decide) ?_)
        try dsimp only [List.set, setL, List.eraseIdx, List.cons_append, List.nil_append, List.append_nil, Nat.zero_add, Nat.reduceAdd, Sl.v] at h
        first | refine t_fn (R13_one_con x size h1 hx) h (by repeat (first | exact Sub.nil _ | apply Sub.c0 | apply Sub.c1 | apply Sub.c2 | apply Sub.c3 | apply Sub.c4 | apply Sub.c5 | apply Sub.c6 | apply Sub.c7 | apply Sub.c8 | apply Sub.c9 | apply Sub.c10 | apply Sub.c11 | exact Sub.refl _)) noRo fun w h => ?_ | refine t_fnn (R13_one_con x size h1 hx) h (by repeat (first | exact Sub.nil _ | apply Sub.c0 | apply Sub.c1 | apply Sub.c2 | apply Sub.c3 | apply Sub.c4 | apply Sub.c5 | apply Sub.c6 | apply Sub.c7 | apply Sub.c8 | apply Sub.c9 | apply Sub.c10 | apply Sub.c11 | exact Sub.refl _)) noRo fun w h => ?_
        try dsimp only [List.set, setL, List.eraseIdx, List.cons_append, List.nil_append, List.append_nil, Nat.zero_add, Nat.reduceAdd, Sl.v] at h
        repeat (first
          | refine t_tickS h fun w h => ?_
          | refine t_keepN ?_
          | refine t_ldB h 0 rfl rfl ?_
          | refine t_ldB h 1 rfl rfl ?_
          | refine t_ldB h 2 rfl rfl ?_
          | refine t_ldB h 3 rfl rfl ?_
          | refine t_ldB h 4 rfl rfl ?_
          | refine t_ldB h 5 rfl rfl ?_
          | refine t_ldB h 6 rfl rfl ?_
          | refine t_ldB h 7 rfl rfl ?_
          | refine t_ldB h 8 rfl rfl ?_
          | refine t_ldB h 9 rfl rfl ?_
          | refine t_ldO h 0 rfl rfl rfl ?_
          | refine t_ldO h 1 rfl rfl rfl ?_
          | refine t_ldO h 2 rfl rfl rfl ?_
          | refine t_ldO h 3 rfl rfl rfl ?_
          | refine t_ldO h 4 rfl rfl rfl ?_
          | refine t_ldO h 5 rfl rfl rfl ?_
          | refine t_ldO h 6 rfl rfl rfl ?_
          | refine t_ldO h 7 rfl rfl rfl ?_
          | refine t_ldO h 8 rfl rfl rfl ?_
          | refine t_ldO h 9 rfl rfl rfl ?_
          | refine t_keepB h 0 rfl rfl ?_
          | refine t_keepB h 1 rfl rfl ?_
          | refine t_keepB h 2 rfl rfl ?_
          | refine t_keepB h 3 rfl rfl ?_
          | refine t_keepB h 4 rfl rfl ?_
          | refine t_keepB h 5 rfl rfl ?_
          | refine t_keepB h 6 rfl rfl ?_
          | refine t_keepB h 7 rfl rfl ?_
          | refine t_keepB h 8 rfl rfl ?_
          | refine t_keepB h 9 rfl rfl ?_
          | (refine t_stB h 0 rfl (by simp [setL]) (by simp [Value.oneCell']) fun w h => ?_; try dsimp only [List.set, setL, List.eraseIdx, List.cons_append, List.nil_append, List.append_nil, Nat.zero_add, Nat.reduceAdd, Sl.v] at h)
          | (refine t_stB h 1 rfl (by simp [setL]) (by simp [Value.oneCell']) fun w h => ?_; try dsimp only [List.set, setL, List.eraseIdx, List.cons_append, List.nil_append, List.append_nil, Nat.zero_add, Nat.reduceAdd, Sl.v] at h)
          | (refine t_stB h 2 rfl (by simp [setL]) (by simp [Value.oneCell']) fun w h => ?_; try dsimp only [List.set, setL, List.eraseIdx, List.cons_append, List.nil_append, List.append_nil, Nat.zero_add, Nat.reduceAdd, Sl.v] at h)
          | (refine t_stB h 3 rfl (by simp [setL]) (by simp [Value.oneCell']) fun w h => ?_; try dsimp only [List.set, setL, List.eraseIdx, List.cons_append, List.nil_append, List.append_nil, Nat.zero_add, Nat.reduceAdd, Sl.v] at h)
          | (refine t_stB h 4 rfl (by simp [setL]) (by simp [Value.oneCell']) fun w h => ?_; try dsimp only [List.set, setL, List.eraseIdx, List.cons_append, List.nil_append, List.append_nil, Nat.zero_add, Nat.reduceAdd, Sl.v] at h)
          | (refine t_stB h 5 rfl (by simp [setL]) (by simp [Value.oneCell']) fun w h => ?_; try dsimp only [List.set, setL, List.eraseIdx, List.cons_append, List.nil_append, List.append_nil, Nat.zero_add, Nat.reduceAdd, Sl.v] at h)
          | (refine t_stB h 6 rfl (by simp [setL]) (by simp [Value.oneCell']) fun w h => ?_; try dsimp only [List.set, setL, List.eraseIdx, List.cons_append, List.nil_append, List.append_nil, Nat.zero_add, Nat.reduceAdd, Sl.v] at h)
          | (refine t_stB h 7 rfl (by simp [setL]) (by simp [Value.oneCell']) fun w h => ?_; try dsimp only [List.set, setL, List.eraseIdx, List.cons_append, List.nil_append, List.append_nil, Nat.zero_add, Nat.reduceAdd, Sl.v] at h)
          | (refine t_stB h 8 rfl (by simp [setL]) (by simp [Value.oneCell']) fun w h => ?_; try dsimp only [List.set, setL, List.eraseIdx, List.cons_append, List.nil_append, List.append_nil, Nat.zero_add, Nat.reduceAdd, Sl.v] at h)
          | (refine t_stB h 9 rfl (by simp [setL]) (by simp [Value.oneCell']) fun w h => ?_; try dsimp only [List.set, setL, List.eraseIdx, List.cons_append, List.nil_append, List.append_nil, Nat.zero_add, Nat.reduceAdd, Sl.v] at h)
          | refine t_newB h (by simp [Value.oneCell']) fun w b h hb => ?_
          | refine t_nil ?_
          | refine t_true rfl ?_
          | refine t_false rfl ?_
          | refine t_yes rfl ?_
          | refine t_nyes rfl ?_
          | refine t_no (by decide) ?_
          | refine t_nno (by decide) ?_
          | refine t_need (by decide) ?_)
        try dsimp only [List.set, setL, List.eraseIdx, List.cons_append, List.nil_append, List.append_nil, Nat.zero_add, Nat.reduceAdd, Sl.v] at h
        exact t_next (step _ (fun _ he => c6 (by rw [he])) h)
    · repeat (first
        | refine t_tickS h fun w h => ?_
        | refine t_keepN ?_
        | refine t_ldB h 0 rfl rfl ?_
        | refine t_ldB h 1 rfl rfl ?_
        | refine t_ldB h 2 rfl rfl ?_
        | refine t_ldB h 3 rfl rfl ?_
        | refine t_ldB h 4 rfl rfl ?_
        | refine t_ldB h 5 rfl rfl ?_
        | refine t_ldB h 6 rfl rfl ?_
        | refine t_ldB h 7 rfl rfl ?_
        | refine t_ldB h 8 rfl rfl ?_
        | refine t_ldB h 9 rfl rfl ?_
        | refine t_ldO h 0 rfl rfl rfl ?_
        | refine t_ldO h 1 rfl rfl rfl ?_
        | refine t_ldO h 2 rfl rfl rfl ?_
        | refine t_ldO h 3 rfl rfl rfl ?_
        | refine t_ldO h 4 rfl rfl rfl ?_
        | refine t_ldO h 5 rfl rfl rfl ?_
        | refine t_ldO h 6 rfl rfl rfl ?_
        | refine t_ldO h 7 rfl rfl rfl ?_
        | refine t_ldO h 8 rfl rfl rfl ?_
        | refine t_ldO h 9 rfl rfl rfl ?_
        | refine t_keepB h 0 rfl rfl ?_
        | refine t_keepB h 1 rfl rfl ?_
        | refine t_keepB h 2 rfl rfl ?_
        | refine t_keepB h 3 rfl rfl ?_
        | refine t_keepB h 4 rfl rfl ?_
        | refine t_keepB h 5 rfl rfl ?_
        | refine t_keepB h 6 rfl rfl ?_
        | refine t_keepB h 7 rfl rfl ?_
        | refine t_keepB h 8 rfl rfl ?_
        | refine t_keepB h 9 rfl rfl ?_
        | (refine t_stB h 0 rfl (by simp [setL]) (by simp [Value.oneCell']) fun w h => ?_; try dsimp only [List.set, setL, List.eraseIdx, List.cons_append, List.nil_append, List.append_nil, Nat.zero_add, Nat.reduceAdd, Sl.v] at h)
        | (refine t_stB h 1 rfl (by simp [setL]) (by simp [Value.oneCell']) fun w h => ?_; try dsimp only [List.set, setL, List.eraseIdx, List.cons_append, List.nil_append, List.append_nil, Nat.zero_add, Nat.reduceAdd, Sl.v] at h)
        | (refine t_stB h 2 rfl (by simp [setL]) (by simp [Value.oneCell']) fun w h => ?_; try dsimp only [List.set, setL, List.eraseIdx, List.cons_append, List.nil_append, List.append_nil, Nat.zero_add, Nat.reduceAdd, Sl.v] at h)
        | (refine t_stB h 3 rfl (by simp [setL]) (by simp [Value.oneCell']) fun w h => ?_; try dsimp only [List.set, setL, List.eraseIdx, List.cons_append, List.nil_append, List.append_nil, Nat.zero_add, Nat.reduceAdd, Sl.v] at h)
        | (refine t_stB h 4 rfl (by simp [setL]) (by simp [Value.oneCell']) fun w h => ?_; try dsimp only [List.set, setL, List.eraseIdx, List.cons_append, List.nil_append, List.append_nil, Nat.zero_add, Nat.reduceAdd, Sl.v] at h)
        | (refine t_stB h 5 rfl (by simp [setL]) (by simp [Value.oneCell']) fun w h => ?_; try dsimp only [List.set, setL, List.eraseIdx, List.cons_append, List.nil_append, List.append_nil, Nat.zero_add, Nat.reduceAdd, Sl.v] at h)
        | (refine t_stB h 6 rfl (by simp [setL]) (by simp [Value.oneCell']) fun w h => ?_; try dsimp only [List.set, setL, List.eraseIdx, List.cons_append, List.nil_append, List.append_nil, Nat.zero_add, Nat.reduceAdd, Sl.v] at h)
        | (refine t_stB h 7 rfl (by simp [setL]) (by simp [Value.oneCell']) fun w h => ?_; try dsimp only [List.set, setL, List.eraseIdx, List.cons_append, List.nil_append, List.append_nil, Nat.zero_add, Nat.reduceAdd, Sl.v] at h)
        | (refine t_stB h 8 rfl (by simp [setL]) (by simp [Value.oneCell']) fun w h => ?_; try dsimp only [List.set, setL, List.eraseIdx, List.cons_append, List.nil_append, List.append_nil, Nat.zero_add, Nat.reduceAdd, Sl.v] at h)
        | (refine t_stB h 9 rfl (by simp [setL]) (by simp [Value.oneCell']) fun w h => ?_; try dsimp only [List.set, setL, List.eraseIdx, List.cons_append, List.nil_append, List.append_nil, Nat.zero_add, Nat.reduceAdd, Sl.v] at h)
        | refine t_newB h (by simp [Value.oneCell']) fun w b h hb => ?_
        | refine t_nil ?_
        | refine t_true rfl ?_
        | refine t_false rfl ?_
        | refine t_yes rfl ?_
        | refine t_nyes rfl ?_
        | refine t_no (by decide) ?_
        | refine t_nno (by decide) ?_
        | refine t_need (by decide) ?_)
      try dsimp only [List.set, setL, List.eraseIdx, List.cons_append, List.nil_append, List.append_nil, Nat.zero_add, Nat.reduceAdd, Sl.v] at h
      first | refine t_fn (R13_one_con x size h1 hx) h (by repeat (first | exact Sub.nil _ | apply Sub.c0 | apply Sub.c1 | apply Sub.c2 | apply Sub.c3 | apply Sub.c4 | apply Sub.c5 | apply Sub.c6 | apply Sub.c7 | apply Sub.c8 | apply Sub.c9 | apply Sub.c10 | apply Sub.c11 | exact Sub.refl _)) noRo fun w h => ?_ | refine t_fnn (R13_one_con x size h1 hx) h (by repeat (first | exact Sub.nil _ | apply Sub.c0 | apply Sub.c1 | apply Sub.c2 | apply Sub.c3 | apply Sub.c4 | apply Sub.c5 | apply Sub.c6 | apply Sub.c7 | apply Sub.c8 | apply Sub.c9 | apply Sub.c10 | apply Sub.c11 | exact Sub.refl _)) noRo fun w h => ?_
      try dsimp only [List.set, setL, List.eraseIdx, List.cons_append, List.nil_append, List.append_nil, Nat.zero_add, Nat.reduceAdd, Sl.v] at h
      repeat (first
        | refine t_tickS h fun w h => ?_
        | refine t_keepN ?_
        | refine t_ldB h 0 rfl rfl ?_
        | refine t_ldB h 1 rfl rfl ?_
        | refine t_ldB h 2 rfl rfl ?_
        | refine t_ldB h 3 rfl rfl ?_
        | refine t_ldB h 4 rfl rfl ?_
        | refine t_ldB h 5 rfl rfl ?_
        | refine t_ldB h 6 rfl rfl ?_
        | refine t_ldB h 7 rfl rfl ?_
        | refine t_ldB h 8 rfl rfl ?_
        | refine t_ldB h 9 rfl rfl ?_
        | refine t_ldO h 0 rfl rfl rfl ?_
        | refine t_ldO h 1 rfl rfl rfl ?_
        | refine t_ldO h 2 rfl rfl rfl ?_
        | refine t_ldO h 3 rfl rfl rfl ?_
        | refine t_ldO h 4 rfl rfl rfl ?_
        | refine t_ldO h 5 rfl rfl rfl ?_
        | refine t_ldO h 6 rfl rfl rfl ?_
        | refine t_ldO h 7 rfl rfl rfl ?_
        | refine t_ldO h 8 rfl rfl rfl ?_
        | refine t_ldO h 9 rfl rfl rfl ?_
        | refine t_keepB h 0 rfl rfl ?_
        | refine t_keepB h 1 rfl rfl ?_
        | refine t_keepB h 2 rfl rfl ?_
        | refine t_keepB h 3 rfl rfl ?_
        | refine t_keepB h 4 rfl rfl ?_
        | refine t_keepB h 5 rfl rfl ?_
        | refine t_keepB h 6 rfl rfl ?_
        | refine t_keepB h 7 rfl rfl ?_
        | refine t_keepB h 8 rfl rfl ?_
        | refine t_keepB h 9 rfl rfl ?_
        | (refine t_stB h 0 rfl (by simp [setL]) (by simp [Value.oneCell']) fun w h => ?_; try dsimp only [List.set, setL, List.eraseIdx, List.cons_append, List.nil_append, List.append_nil, Nat.zero_add, Nat.reduceAdd, Sl.v] at h)
        | (refine t_stB h 1 rfl (by simp [setL]) (by simp [Value.oneCell']) fun w h => ?_; try dsimp only [List.set, setL, List.eraseIdx, List.cons_append, List.nil_append, List.append_nil, Nat.zero_add, Nat.reduceAdd, Sl.v] at h)
        | (refine t_stB h 2 rfl (by simp [setL]) (by simp [Value.oneCell']) fun w h => ?_; try dsimp only [List.set, setL, List.eraseIdx, List.cons_append, List.nil_append, List.append_nil, Nat.zero_add, Nat.reduceAdd, Sl.v] at h)
        | (refine t_stB h 3 rfl (by simp [setL]) (by simp [Value.oneCell']) fun w h => ?_; try dsimp only [List.set, setL, List.eraseIdx, List.cons_append, List.nil_append, List.append_nil, Nat.zero_add, Nat.reduceAdd, Sl.v] at h)
        | (refine t_stB h 4 rfl (by simp [setL]) (by simp [Value.oneCell']) fun w h => ?_; try dsimp only [List.set, setL, List.eraseIdx, List.cons_append, List.nil_append, List.append_nil, Nat.zero_add, Nat.reduceAdd, Sl.v] at h)
        | (refine t_stB h 5 rfl (by simp [setL]) (by simp [Value.oneCell']) fun w h => ?_; try dsimp only [List.set, setL, List.eraseIdx, List.cons_append, List.nil_append, List.append_nil, Nat.zero_add, Nat.reduceAdd, Sl.v] at h)
        | (refine t_stB h 6 rfl (by simp [setL]) (by simp [Value.oneCell']) fun w h => ?_; try dsimp only [List.set, setL, List.eraseIdx, List.cons_append, List.nil_append, List.append_nil, Nat.zero_add, Nat.reduceAdd, Sl.v] at h)
        | (refine t_stB h 7 rfl (by simp [setL]) (by simp [Value.oneCell']) fun w h => ?_; try dsimp only [List.set, setL, List.eraseIdx, List.cons_append, List.nil_append, List.append_nil, Nat.zero_add, Nat.reduceAdd, Sl.v] at h)
        | (refine t_stB h 8 rfl (by simp [setL]) (by simp [Value.oneCell']) fun w h => ?_; try dsimp only [List.set, setL, List.eraseIdx, List.cons_append, List.nil_append, List.append_nil, Nat.zero_add, Nat.reduceAdd, Sl.v] at h)
        | (refine t_stB h 9 rfl (by simp [setL]) (by simp [Value.oneCell']) fun w h => ?_; try dsimp only [List.set, setL, List.eraseIdx, List.cons_append, List.nil_append, List.append_nil, Nat.zero_add, Nat.reduceAdd, Sl.v] at h)
        | refine t_newB h (by simp [Value.oneCell']) fun w b h hb => ?_
        | refine t_nil ?_
        | refine t_true rfl ?_
        | refine t_false rfl ?_
        | refine t_yes rfl ?_
        | refine t_nyes rfl ?_
        | refine t_no (by decide) ?_
        | refine t_nno (by decide) ?_
        | refine t_need (by decide) ?_)
      try dsimp only [List.set, setL, List.eraseIdx, List.cons_append, List.nil_append, List.append_nil, Nat.zero_add, Nat.reduceAdd, Sl.v] at h
      exact t_next (step _ (fun h2 => absurd h2 c5) h)
  · refine t_ret ⟨?_, h.weak (by repeat (first | exact Weak.refl _ | apply Weak.c0 | apply Weak.c1 | apply Weak.c2 | apply Weak.c3 | apply Weak.c4 | apply Weak.c5 | apply Weak.c6 | apply Weak.c7 | apply Weak.c8 | apply Weak.c9 | apply Weak.c10 | apply Weak.c11 | apply Weak.drop))⟩
    rw [hG]
    by_cases c5 : e.fl = 2
    · rw [if_pos c5]
      by_cases hE : M.Spot.In ⟨e.off, e.wrap⟩ size
      · have h5 := hg c5 hE
        rw [spotGap_ok h1 hs hE]
        simp [show ¬ M.gapN s ⟨e.off, e.wrap⟩ size < g by omega]; rfl
      · have : M.spotCheck ⟨e.off, e.wrap⟩ size ≠ 0 := fun h => hE ((spotCheck_in h1).1 h)
        have : (M.spotGap s ⟨e.off, e.wrap⟩ size).2 ≠ 0 := by
          unfold M.spotGap
          rw [if_neg (by simp [hck.1]), if_pos this]
          exact this
        simp [this]; rfl
    · rw [if_neg c5]; rfl
end Go.Proofs.YthfcneahnldgnaaGreat
