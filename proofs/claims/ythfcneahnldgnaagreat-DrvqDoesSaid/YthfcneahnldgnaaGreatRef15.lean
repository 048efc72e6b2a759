/- The reference's queues: contracts. -/
import Derived.Test.YthfcneahnldgnaaGreatDrvqReap
namespace Go.Proofs.YthfcneahnldgnaaGreat
open Go Vk
set_option linter.unusedSimpArgs false
set_option linter.unusedVariables false
section
variable {w0 w : World} {W : List Nat} {B : List Res}
theorem R14_Check_spec {b : Nat} {l : List UInt8} (h : St w0 W w (memK b l :: B)) (y : M.Lay) (h1 : i64R y.ring) (h2 : i64R y.size) (h3 : i64R y.drv) (h4 : i64R y.dev) :
    Calls Tryz.prog 62 #[.pointer (some ⟨b, 0, none⟩), Lay.v y] w fun e w' => e = .returned (.int .i64 (M.layCheck l.length y)) ∧ St w0 W w' (memK b l :: B) := by
  refine aqueductref14_Check.calls ⟨b, 0, none⟩ (y.ring, y.size, y.drv, y.dev, ()) ?_
  unfold aqueductref14_Check.T
  dsimp only
  unfold i64R at *
  refine t_newB h (by simp [Value.oneCell']) fun w b' h hb => ?_
  refine t_ldB h 0 rfl rfl (t_if (fun c1 => t_ret ⟨by simp [M.layCheck]; omega, h.drop⟩) (fun c1 => ?_))
  refine t_ldB h 0 rfl rfl (t_if (fun c2 => t_ret ⟨by simp [M.layCheck]; omega, h.drop⟩) (fun c2 => ?_))
  refine t_ldB h 0 rfl rfl (t_need (by omega) (t_ifn (fun c3 => t_ret ⟨by simp [M.layCheck, c3], h.drop⟩) (fun c3 => ?_)))
  refine t_ldB h 0 rfl rfl (t_need (by omega) (t_ifn (fun c4 => t_ret ⟨by simp [M.layCheck, c4], h.drop⟩) (fun c4 => ?_)))
  refine t_ldB h 0 rfl rfl (t_need (by omega) (t_ifn (fun c5 => t_ret ⟨by simp [M.layCheck, c5], h.drop⟩) (fun c5 => ?_)))
  refine t_ldB h 0 rfl rfl (t_ldB h 0 rfl rfl ?_)
  rw [w64 (n := 16 * y.size) (by omega)]
  refine t_callS (k := .B) (x := M.mayAt l.length y.ring (16 * y.size)) (R4_May_spec h.swap _ _ h1 (by omega)) fun w h => ?_
  refine t_not (fun c6 => t_ret ⟨by simp [M.layCheck, c6], h.swap.drop⟩) (fun c6 => ?_)
  refine t_ldB h 1 rfl rfl ?_
  refine t_callS (k := .B) (x := M.mayAt l.length y.drv 4) (R4_May_spec h _ _ h3 (by omega)) fun w h => ?_
  refine t_not (fun c7 => t_ret ⟨by simp [M.layCheck, c7], h.swap.drop⟩) (fun c7 => ?_)
  refine t_ldB h 1 rfl rfl ?_
  refine t_callS (k := .B) (x := M.mayAt l.length y.dev 4) (R4_May_spec h _ _ h4 (by omega)) fun w h => ?_
  refine t_not (fun c8 => t_ret ⟨by simp [M.layCheck, c8], h.swap.drop⟩) (fun c8 => t_ret ⟨?_, h.swap.drop⟩)
  simp [M.layCheck, c3, c4, c5, c6, c7, c8]; omega


def intsV (l : List Int) : List Value := l.map (Value.int .i64)
theorem intsV_get {l : List Int} {i : Nat} (h : i < l.length) : (intsV l).drop (i * 1) = .int .i64 (l.getD i 0) :: intsV (l.drop (i + 1)) := by
  unfold intsV
  rw [Nat.mul_one, ← List.map_drop, List.drop_eq_getElem_cons h, List.map_cons, show l.getD i 0 = l[i] by simp [List.getD, h]]
theorem R11_Same_spec (h : St w0 W w B) (x0 x1 : Sl) (l m : List Int) (h0 : ∀ w', Keep W w0 w' → Rd w' x0 1 (intsV l)) (h1 : ∀ w', Keep W w0 w' → Rd w' x1 1 (intsV m)) (hl : l.length ≤ 1048576) :
    Calls Tryz.prog 56 #[.slice x0.a x0.n x0.c, .slice x1.a x1.n x1.c] w fun e w' => e = .returned (.bool (decide (l = m))) ∧ St w0 W w' B := by
  refine aqueductref11_Same.calls x0 x1 ?_
  unfold aqueductref11_Same.T
  have hn0 : l.length = x0.n := by have := (h0 w h.kept).len; simp [intsV] at this; omega
  have hn1 : m.length = x1.n := by have := (h1 w h.kept).len; simp [intsV] at this; omega
  refine t_ifn (fun c1 => t_ret ⟨?_, h⟩) (fun c1 => ?_)
  · have : l ≠ m := fun e => c1 (by rw [← hn0, ← hn1, e])
    simp [this]
  refine t_loop (fun n st w' => ∃ k : Nat, k ≤ l.length ∧ n = l.length - k ∧ st = ((k : Int), ()) ∧ l.take k = m.take k ∧ St w0 W w' B) l.length ⟨0, by omega, rfl, rfl, by simp, h⟩ ?_
  rintro n st w ⟨k, hk, rfl, rfl, heq, h⟩ Ks hJ _
  dsimp only
  refine t_if (fun hc => t_tickS h fun w h => ?_) (fun hc => t_ret ⟨?_, h⟩)
  · refine t_need (by omega) (t_nilRd (h0 w h.kept) (by omega) fun a ha => ?_)
    rw [Int.toNat_natCast]
    refine t_ldRd (k := .I) (x := l.getD k 0) (h0 w h.kept) ha (by rw [intsV_get (by omega)]; rfl) ?_
    refine t_need (by omega) (t_nilRd (h1 w h.kept) (by omega) fun a' ha' => ?_)
    refine t_ldRd (k := .I) (x := m.getD k 0) (h1 w h.kept) ha' (by rw [intsV_get (by omega)]; rfl) ?_
    refine t_ifn (fun c2 => t_ret ⟨?_, h⟩) (fun c2 => ?_)
    · have : l ≠ m := fun e => c2 (by rw [e])
      simp [this]
    · rw [w64 (n := (k : Int) + 1) (by omega)]
      refine t_next (hJ _ (((k + 1 : Nat) : Int), ()) w (by omega) ⟨k + 1, by omega, rfl, rfl, ?_, h⟩)
      have e1 : l.take (k + 1) = l.take k ++ [l.getD k 0] := by rw [List.take_succ_eq_append_getElem (by omega)]; simp [List.getD, show k < l.length by omega]
      have e2 : m.take (k + 1) = m.take k ++ [m.getD k 0] := by rw [List.take_succ_eq_append_getElem (by omega)]; simp [List.getD, show k < m.length by omega]
      rw [e1, e2, heq, c2]
  · have : l = m := by
      rw [List.take_of_length_le (by omega), List.take_of_length_le (by omega)] at heq
      exact heq
    simp [this]
end
end Go.Proofs.YthfcneahnldgnaaGreat
