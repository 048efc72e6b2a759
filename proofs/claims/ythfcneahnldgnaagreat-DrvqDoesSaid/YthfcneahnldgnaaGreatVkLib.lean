/- Vk, part 14: slices.Clone, whatever the elements. -/
import Derived.Test.YthfcneahnldgnaaGreatVkSpec
namespace Go.Proofs.YthfcneahnldgnaaGreat.Vk
open Go
set_option linter.unusedSimpArgs false
set_option linter.unusedVariables false
variable {P : Program} {R : Ending → World → Prop} {Ks : Conts} {w0 w w' : World} {W : List Nat} {Rs B : List Res}
theorem Src.of_rd {s : Sl} {sz : Nat} {cs : List Value} (h : Rd w s sz cs) : Src P w sz (.slice s.a s.n s.c) s.n cs where
  len := fun w' => rfl
  size := h.len
  read := fun w' hw => by
    rcases Nat.eq_zero_or_pos s.n with hn | hn
    · have hcs : cs = [] := List.eq_nil_of_length_eq_zero (by rw [h.len, hn]; simp)
      rw [hn, hcs]
      cases hsa : s.a with
      | none => simp [Builtin.firstCells]
      | some a =>
        have := run_loadCells_list (P := P) (w := w') a [] (by simp)
        simpa [Builtin.firstCells] using this
    · obtain ⟨a, ha, hc⟩ := h.at_ hn
      rw [ha]
      simp only [Builtin.firstCells]
      rw [← h.len]
      refine run_loadCells_list (w := w') a cs fun j v hj => ?_
      rw [cell?_heap hw]; exact hc j v hj
theorem rd_none {s : Sl} {sz : Nat} {cs : List Value} (h : Rd w s sz cs) (ha : s.a = none) : s.n = 0 := by
  rcases Nat.eq_zero_or_pos s.n with hn | hn
  · exact hn
  · obtain ⟨a, h1, _⟩ := h.at_ hn
    rw [ha] at h1; cases h1
/-- The body of slices.Clone. -/
def cloneT (t E : TypeId) (s : Sl) : Tr := .cond s.a.isNone (.ret (.slice none 0 0)) (.new E [] fun a0 => .sem (Builtin.append_ #[t, t] t #[.slice (some a0) 0 0, .slice s.a s.n s.c]) .L fun l1 => .ret (.slice l1.a l1.n l1.c))
theorem cloneT_con {t E sz by_ : Nat} {z : Value} {s : Sl} {cs : List Value} {f : FuncId} (hf : ∀ {R : Ending → World → Prop} {w : World}, (cloneT t E s).wp P R Conts.none w → Calls P f #[.slice s.a s.n s.c] w R)
    (hI : slI P t = some (E, sz, by_, z)) (hz : z.cells.size = sz) (hpos : 0 < by_) (hone : ∀ v ∈ cs, v.oneCell' = true) (hs : s.n * by_ ≤ 140737488355328) :
    ConE P (fun w => Rd w s sz cs) f #[.slice s.a s.n s.c] .L [] fun s' post => s'.n = s.n ∧ post = [ownR s' E sz cs] := by
  intro w0 W w B hro h
  refine hf ?_
  unfold cloneT
  refine t_cond (fun c1 => ?_) (fun c1 => ?_)
  · have hrd := hro w h.kept
    have hn := rd_none hrd (by simpa using c1)
    have hcs : cs = [] := List.eq_nil_of_length_eq_zero (by rw [hrd.len, hn]; simp)
    subst hcs
    exact t_ret ⟨⟨none, 0, 0⟩, _, rfl, ⟨hn.symm, rfl⟩, h.push (F' := []) (Keep.refl _ _) (Own.nil _ _ _) (by simp)⟩
  · refine t_newO (sz := sz) h fun w a hk h => ?_
    refine t_append (s := ⟨some a, 0, 0⟩) h 0 rfl hI hz (by obtain ⟨hu, _⟩ := slI_spec hI; exact ⟨_, hu, by simp⟩) (Src.of_rd (hro w h.kept)) hone (by simpa using hs) hpos fun s' w hn h => t_ret ⟨s', _, rfl, ⟨by simpa using hn, rfl⟩, by simpa using h⟩
end Go.Proofs.YthfcneahnldgnaaGreat.Vk
