/- Vk: cells of slices that were loaded early still hold. -/
import Derived.Test.YthfcneahnldgnaaGreatVkSpec
namespace Go.Proofs.YthfcneahnldgnaaGreat.Vk
open Go
set_option linter.unusedSimpArgs false
set_option linter.unusedVariables false
section
variable {P : Program} {R : Ending → World → Prop} {Ks : Conts} {w0 w w' : World} {W : List Nat} {Rs B : List Res} {A : Res}
theorem t_keepRd {s : Sl} {sz : Nat} {cs vs : List Value} {a : Addr} {m : Nat} {l : List (Addr × List Value)} {c : Tr} (hr : Rd w s sz cs) (ha : s.a = some a) (hx : (cs.drop m).take vs.length = vs) (hc : (Tr.keep l c).wp P R Ks w) : (Tr.keep ((a.add m, vs) :: l) c).wp P R Ks w := by
  obtain ⟨h1, h2⟩ := hc
  refine ⟨fun x hm => ?_, h2⟩
  rcases List.mem_cons.1 hm with rfl | hm
  · refine hasL_cells _ 0 fun j v hj => ?_
    dsimp only at hj ⊢
    have hlt : j < vs.length := by
      rcases Nat.lt_or_ge j vs.length with h' | h'
      · exact h'
      · rw [List.getElem?_eq_none h'] at hj; cases hj
    rw [← hx, List.getElem?_take_of_lt hlt, List.getElem?_drop] at hj
    have hn : 0 < s.n := by
      rcases Nat.eq_zero_or_pos s.n with h0 | h0
      · have hl := hr.len; rw [h0] at hl
        have : cs = [] := List.eq_nil_of_length_eq_zero (by simpa using hl)
        subst this
        simp at hj
      · exact h0
    obtain ⟨a', h3, h4⟩ := hr.at_ hn
    rw [h3] at ha; cases ha
    rw [Addr.add_add, Nat.zero_add]
    exact h4 (m + j) v hj
  · exact h1 x hm
theorem t_keepO {s : Sl} {E sz : Nat} {cs vs : List Value} {a : Addr} {m : Nat} {l : List (Addr × List Value)} {c : Tr} (h : St w0 W w Rs) (i : Nat) (hi : Rs[i]? = some (ownR s E sz cs)) (ha : s.a = some a) (hx : (cs.drop m).take vs.length = vs) (hc : (Tr.keep l c).wp P R Ks w) : (Tr.keep ((a.add m, vs) :: l) c).wp P R Ks w := by
  obtain ⟨F, hF⟩ := h.get i hi
  exact t_keepRd (Own.rd hF) ha hx hc
end
end Go.Proofs.YthfcneahnldgnaaGreat.Vk
