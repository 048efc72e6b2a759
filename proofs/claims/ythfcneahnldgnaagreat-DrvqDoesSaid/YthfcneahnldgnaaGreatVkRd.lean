/- Vk, part 10: slices that a call only reads; lending. -/
import Derived.Test.YthfcneahnldgnaaGreatVkMap
import Derived.DataElems
namespace Go.Proofs.YthfcneahnldgnaaGreat.Vk
open Go
set_option linter.unusedSimpArgs false
set_option linter.unusedVariables false
structure Rd (w : World) (s : Sl) (sz : Nat) (cs : List Value) : Prop where
  len : cs.length = s.n * sz
  at_ : 0 < s.n → ∃ a, s.a = some a ∧ ∀ j v, cs[j]? = some v → w.cell? (a.add j) = some v
section
variable {P : Program} {R : Ending → World → Prop} {Ks : Conts} {w0 w w' : World} {W : List Nat} {Rs B : List Res} {A : Res}
theorem Own.rd {s : Sl} {E sz : Nat} {cs : List Value} {F : List Nat} (h : Own w s E sz cs F) : Rd w s sz cs := by
  refine ⟨h.len, fun hn => ?_⟩
  obtain ⟨b, o, blk, h1, _, hb, hl, ht⟩ := Own.some h hn
  refine ⟨_, h1, fun j v hj => ?_⟩
  rw [add_mk, hb.cell]
  have hlt : j < cs.length := by
    rcases Nat.lt_or_ge j cs.length with h' | h'
    · exact h'
    · rw [List.getElem?_eq_none h'] at hj; cases hj
  have h2 : ((blk.drop o).take cs.length)[j]? = .some v := by rw [ht]; exact hj
  rw [List.getElem?_take_of_lt hlt, List.getElem?_drop] at h2
  exact h2
theorem t_nilRd {s : Sl} {sz : Nat} {cs : List Value} {c : Addr → Tr} (hr : Rd w s sz cs) (hn : 0 < s.n) (hc : ∀ a, s.a = some a → (c a).wp P R Ks w) : (Tr.nil s.a c).wp P R Ks w := by
  obtain ⟨a, h1, _⟩ := hr.at_ hn
  rw [h1]
  exact hc a h1
theorem hasL_cells {a : Addr} : ∀ (vs : List Value) (i : Nat), (∀ j v, vs[j]? = some v → w.cell? (a.add (i + j)) = some v) → hasL w a i vs
  | [], _, _ => trivial
  | v :: r, i, h => ⟨h 0 v rfl, hasL_cells r (i + 1) fun j u hj => by rw [Nat.add_assoc, Nat.add_comm 1 j]; exact h (j + 1) u (by simpa using hj)⟩
theorem t_ldRd {s : Sl} {sz : Nat} {cs : List Value} {a : Addr} {m : Nat} {k : Kd} {c : k.D → Tr} {x : k.D} (hr : Rd w s sz cs) (ha : s.a = some a) (hx : k.rd (cs.drop m) = some x) (hc : (c x).wp P R Ks w) (hpos : 0 < (k.cells x).length := by exact Nat.succ_pos _) :
    (Tr.ld (a.add m) k c).wp P R Ks w := by
  have hrd := Kd.rd_v hx
  have hn : 0 < s.n := by
    rcases Nat.eq_zero_or_pos s.n with h0 | h0
    · have hl := hr.len; rw [h0] at hl
      have : cs = [] := List.eq_nil_of_length_eq_zero (by simpa using hl)
      subst this
      rw [← hrd] at hpos; simp at hpos
    · exact h0
  obtain ⟨a', h1, h2⟩ := hr.at_ hn
  rw [h1] at ha; cases ha
  refine ⟨x, hasL_cells _ 0 fun j v hj => ?_, hc⟩
  rw [Addr.add_add, Nat.zero_add]
  refine h2 (m + j) v ?_
  have hlt : j < (k.cells x).length := by
    rcases Nat.lt_or_ge j (k.cells x).length with h' | h'
    · exact h'
    · rw [List.getElem?_eq_none h'] at hj; cases hj
  rw [← hrd, List.getElem?_take_of_lt hlt, List.getElem?_drop] at hj
  exact hj
/-- What stands ahead is lent: it stays as it is while the others change. -/
theorem St.lend (h : St w0 W w (A :: Rs)) : ∃ W' F, (∀ w', Keep W' w w' → A.p w' F) ∧ St w W' w Rs ∧ ∀ w' Rs', St w W' w' Rs' → St w0 W w' (A :: Rs') := by
  obtain ⟨h1, F, ⟨F1, F2, rfl, h5, h4, h6⟩, h3⟩ := h
  refine ⟨F2, F1, fun w' hk => A.keep h4 hk h5, ⟨Keep.refl _ _, F2, h6, fun b hb => .inl hb⟩, ?_⟩
  rintro w' Rs' ⟨hk, F', h7, h8⟩
  refine ⟨h1.then hk fun b hb => h3 b (by simp [hb]), F1 ++ F', ⟨F1, F', rfl, ?_, A.keep h4 hk h5, h7⟩, ?_⟩
  · intro b hb hc
    rcases h8 b hc with h' | h'
    · exact h5 b hb h'
    · have := A.lt h4 b hb; omega
  · intro b hb
    simp only [List.mem_append] at hb
    rcases hb with h' | h'
    · exact h3 b (by simp [h'])
    · rcases h8 b h' with h'' | h''
      · exact h3 b (by simp [h''])
      · have := h1.size; right; omega
end
end Go.Proofs.YthfcneahnldgnaaGreat.Vk
