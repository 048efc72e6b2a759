/- Vk, part 12: equality of structs whose fields are numbers, bools and strings. -/
import Derived.Test.YthfcneahnldgnaaGreatVkSpec
import Derived.Laws.StructEq
import Derived.ChangeKeysEq
namespace Go.Proofs.YthfcneahnldgnaaGreat.Vk
open Go
set_option linter.unusedSimpArgs false
set_option linter.unusedVariables false
def eqSc : (s : Sc) → s.D → s.D → Bool
  | .int _, a, b => decide (a = b)
  | .bool, a, b => a == b
  | .str, a, b => decide (a = b)
  | _, _, _ => false
def eqDL : (l : List Sc) → DL l → DL l → Bool
  | [], _, _ => true
  | s :: r, x, y => eqSc s x.1 y.1 && eqDL r x.2 y.2
def kindIs : Sc → Option TypeDesc → Bool
  | .int k, u => match u with | some (.int k') => decide (k = k') | _ => false
  | .bool, u => match u with | some .bool => true | _ => false
  | .str, u => match u with | some .string => true | _ => false
  | _, _ => false
theorem equal_sc {P : Program} (w : World) (d : Nat) (t : TypeId) : ∀ (s : Sc) (a b : s.D), kindIs s (P.underlying t) = true → (Op.equalIn (d + 1) t (s.v a) (s.v b)).run P w = .ok (eqSc s a b) w
  | .int k, a, b, h => by
    simp only [kindIs] at h
    split at h
    · rename_i k' hu
      rw [show eqSc (.int k) a b = ((a : Int) == b) from by simp only [eqSc]; exact Bool.eq_iff_iff.2 (by simp)]
      exact Go.run_equalIn_int w d t k k' a b hu
    · cases h
  | .bool, a, b, h => by
    simp only [kindIs] at h
    split at h
    · rename_i hu; exact Go.run_equalIn_bool' w d t a b hu
    · cases h
  | .str, a, b, h => by
    simp only [kindIs] at h
    split at h
    · rename_i hu
      rw [show eqSc .str a b = ((a : ByteArray).toList == ByteArray.toList b) from ?_]
      · exact Go.run_equalIn_string w d t a b hu
      · simp only [eqSc, ByteArray.toList_eq]; exact Bool.eq_iff_iff.2 (by simp [ByteArray.ext_iff, Array.ext_iff, ← Array.toList_inj])
    · cases h
  | .ptr, _, _, h => by simp [kindIs] at h
  | .adr, _, _, h => by simp [kindIs] at h
  | .slc, _, _, h => by simp [kindIs] at h
  | .map, _, _, h => by simp [kindIs] at h
  | .val, _, _, h => by simp [kindIs] at h
/-- Fields one behind another, each of a kind. -/
def flatF (P : Program) : List Sc → Nat → List Field → Bool
  | [], _, [] => true
  | s :: r, i, f :: fs => (f.name != "_") && Nat.beq f.offset i && P.plainKey f.type && kindIs s (P.underlying f.type) && flatF P r (i + 1) fs
  | _, _, _ => false
def flatEq (P : Program) (t : TypeId) (l : List Sc) : Bool :=
  (match P.underlying t with | some (.struct fs) => flatF P l 0 fs.toList | _ => false) && !P.stoodInHeld t && !P.eqGuardType P.depth t
theorem eqFields_flat {P : Program} (w : World) (d : Nat) (xs ys : Array Value) : ∀ (l : List Sc) (i : Nat) (fs : List Field) (x y : DL l), flatF P l i fs = true → xs.toList.drop i = vL l x → ys.toList.drop i = vL l y →
    (Op.eqFields (d + 1) xs ys fs).run P w = .ok (eqDL l x y) w
  | [], i, [], x, y, _, _, _ => rfl
  | [], i, f :: fs, x, y, h, _, _ => by simp [flatF] at h
  | s :: r, i, [], x, y, h, _, _ => by simp [flatF] at h
  | s :: r, i, f :: fs, x, y, h, hx, hy => by
    simp only [flatF, Bool.and_eq_true] at h
    obtain ⟨⟨⟨⟨h1, h2⟩, h3⟩, h4⟩, h5⟩ := h
    have hoff := Nat.eq_of_beq_eq_true h2
    have ex : xs[f.offset]? = some (s.v x.1) := by
      have := congrArg (·[0]?) hx
      simp only [vL, List.getElem?_drop, List.getElem?_cons_zero] at this
      rw [hoff]; simpa using this
    have ey : ys[f.offset]? = some (s.v y.1) := by
      have := congrArg (·[0]?) hy
      simp only [vL, List.getElem?_drop, List.getElem?_cons_zero] at this
      rw [hoff]; simpa using this
    have dx : xs.toList.drop (i + 1) = vL r x.2 := by rw [← List.drop_drop, hx]; rfl
    have dy : ys.toList.drop (i + 1) = vL r y.2 := by rw [← List.drop_drop, hy]; rfl
    have ih := eqFields_flat w d xs ys r (i + 1) fs x.2 y.2 h5 dx dy
    have hone := equal_sc (P := P) w d f.type s x.1 y.1 h4
    have hn : f.name ≠ "_" := by simpa using h1
    simp only [Op.eqFields, if_pos hn, Sem.run_bind, run_part_plain w h3 ex, run_part_plain w h3 ey, Result.andThen_ok, hone, eqDL]
    cases eqSc s x.1 y.1 <;> simp [ih]
section
variable {P : Program} {R : Ending → World → Prop} {Ks : Conts} {w : World}
theorem run_eqSem {t : TypeId} {l : List Sc} (hf : flatEq P t l = true) (ox oy : Operand) (x y : DL l) : (eqSem .eql t ox oy (.agg (vL l x).toArray) (.agg (vL l y).toArray)).run P w = .ok (.bool (eqDL l x y)) w ∧ (eqSem .neq t ox oy (.agg (vL l x).toArray) (.agg (vL l y).toArray)).run P w = .ok (.bool !(eqDL l x y)) w := by
  unfold flatEq at hf
  simp only [Bool.and_eq_true, Bool.not_eq_true'] at hf
  obtain ⟨⟨h1, h2⟩, h3⟩ := hf
  split at h1
  case h_2 => cases h1
  rename_i fs hu
  have hfs : P.fieldsOf t = fs := by simp [Program.fieldsOf, hu]
  have he := run_equalIn_agg (P := P) w 9999 t (vL l x).toArray (vL l y).toArray (by rw [hfs]; exact hu) h2
  rw [hfs, eqFields_flat w 9998 _ _ l 0 fs.toList x y h1 (by simp) (by simp)] at he
  constructor
  · simp only [eqSem, Sem.run_bind, run_eqGuard_agg w _ t ox oy _ _ h3, Result.andThen_ok, run_eql_struct]
    rw [show (10000 : Nat) = 9999 + 1 from rfl, he]; rfl
  · simp only [eqSem, Sem.run_bind, run_eqGuard_agg w _ t ox oy _ _ h3, Result.andThen_ok, run_neq_struct]
    rw [show (10000 : Nat) = 9999 + 1 from rfl, he]; rfl
/-- Structs are compared. -/
theorem t_eqS {t : TypeId} {l : List Sc} (x y : DL l) (hf : flatEq P t l = true) {ox oy : Operand} {c : Bool → Tr} (h : (c (eqDL l x y)).wp P R Ks w) : (Tr.sem (eqSem .eql t ox oy (.agg (vL l x).toArray) (.agg (vL l y).toArray)) .B c).wp P R Ks w :=
  t_sem (k := .B) _ (run_eqSem hf ox oy x y).1 h
theorem t_neS {t : TypeId} {l : List Sc} (x y : DL l) (hf : flatEq P t l = true) {ox oy : Operand} {c : Bool → Tr} (h : (c (!(eqDL l x y))).wp P R Ks w) : (Tr.sem (eqSem .neq t ox oy (.agg (vL l x).toArray) (.agg (vL l y).toArray)) .B c).wp P R Ks w :=
  t_sem (k := .B) _ (run_eqSem hf ox oy x y).2 h
end
theorem eqSc_refl (s : Sc) (h : s = .bool ∨ s = .str ∨ ∃ k, s = .int k) (x : s.D) : eqSc s x x = true := by
  rcases h with rfl | rfl | ⟨k, rfl⟩ <;> simp [eqSc]
end Go.Proofs.YthfcneahnldgnaaGreat.Vk
