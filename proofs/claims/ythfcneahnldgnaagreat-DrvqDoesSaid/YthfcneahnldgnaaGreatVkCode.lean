/- Vk, part 4: the tree of a body speaks of what the model does in that body. -/
import Derived.Test.YthfcneahnldgnaaGreatVkOps
namespace Go.Proofs.YthfcneahnldgnaaGreat.Vk
open Go
variable {D : List Deferred}
set_option linter.unusedSimpArgs false
set_option linter.unusedVariables false

section
variable {P : Program} {C : FuncId → Bool} {R : Ending → World → Prop} {Q : Exit → Act → World → Prop} {n : Nat} {e : Env} {a : Act} {w : World} {Ks : Conts} {np : Bool} {o : Oper}

theorem Agree.set {d : Nat} {v : Value} (h : Agree D n e a) (hd : a.tmps[d]? = some v) : Agree D n (e.set d v) a :=
  ⟨h.size, h.defers, fun i u hi => by
    unfold Env.set at hi
    cases hb : Nat.beq i d with
    | true => rw [hb] at hi; simp at hi; subst hi; rw [Nat.eq_of_beq_eq_true hb]; exact hd
    | false => rw [hb] at hi; exact h.get i u hi⟩

theorem tmps_put (a : Act) (dst : Option Nat) (v : Value) (i : Nat) (h : dst ≠ some i) : (a.put dst v).tmps[i]? = a.tmps[i]? := by
  cases dst with
  | none => rfl
  | some d =>
    have hd : d ≠ i := fun h' => h (by rw [h'])
    simp [Act.put, Array.getElem?_setIfInBounds, hd]

theorem Agree.put {dst : Option Nat} {v : Value} (h : Agree D n e a) (hd : okDst n dst = true) : Agree D n (e.put dst v) (a.put dst v) := by
  cases dst with
  | none => exact h
  | some d =>
    have hd' : d < n := by simpa [okDst] using hd
    refine ⟨by simp [Act.put, h.size], by simpa [Act.put] using h.defers, fun i u hi => ?_⟩
    simp only [Env.put, Env.set] at hi
    cases hb : Nat.beq i d with
    | true =>
      rw [hb] at hi; simp at hi; subst hi
      rw [Nat.eq_of_beq_eq_true hb]
      simp [Act.put, Array.getElem?_setIfInBounds, h.size, hd']
    | false =>
      rw [hb] at hi
      have hc : d ≠ i := fun h' => by rw [h', Nat.beq_refl] at hb; cases hb
      rw [tmps_put a (some d) v i (by simpa using hc)]
      exact h.get i u hi

theorem dstOf_eq (ops : Array Oper) (j : Nat) : dstOf ops.toList j = (ops[j]?).bind (·.dst) := by
  unfold dstOf
  cases h : ops[j]? <;> simp [h]

/-- An operation under its guard, at its place in a region. -/
theorem sxOne_sound {ops : Array Oper} {i : Nat} {K : Env → Tr} {next : Act → World → Prop} (hC : Callable P C) (hag : Agree D n e a) (ho : ops[i]? = some o)
    (h : (sxOne P C n ops.toList np o e K).wp P R Ks w)
    (hK : ∀ e' a' w', Agree D n e' a' → (∃ v, a' = a.put o.dst v) → (K e').wp P R Ks w' → next a' w')
    (hp : ∀ ch w', R (.panicked ch) w' → Q (.panic ch) a w') : wpOp P ops Q i next a w := by
  unfold wpOp
  simp only [ho]
  unfold sxOne at h
  split at h
  case h_2 => exact h.elim
  rename_i hd
  have run : ∀ e', Agree D n e' a → (sxOp P C np o e'.ev fun v => K (e'.put o.dst (v.getD undef))).wp P R Ks w → o.wp P a w next Q := fun e' hag' h' =>
    sxOp_sound hC hag' h' (fun v w' hk => hK _ _ _ (hag'.put hd) ⟨v, rfl⟩ hk) (fun w' hk => hK _ _ _ (hag'.put hd) ⟨undef, rfl⟩ hk) hp
  have skip : ∀ e', Agree D n e' a → (K (e'.put o.dst undef)).wp P R Ks w → next (a.put o.dst undef) w := fun e' hag' h' =>
    hK _ _ _ (hag'.put hd) ⟨undef, rfl⟩ h'
  unfold sxG at h
  split at h
  · rename_i hg
    rw [if_pos (by simp [Region.wanted, hg])]
    exact .inl (run e hag h)
  · rename_i j want hg
    have hwant : Region.wanted o (yielded ops a.tmps) = (yielded ops a.tmps j == some want) := by simp [Region.wanted, hg]
    rw [hwant]
    rw [dstOf_eq] at h
    split at h
    · rename_i hj
      rw [if_neg (by simp [yielded, hj])]
      exact skip e hag h
    · rename_i d hj
      split at h
      · rename_i b hb
        have hb' := hag.get _ _ hb
        have hy : yielded ops a.tmps j = some b := by simp [yielded, hj, hb']
        rw [hy]
        rw [cond_wp] at h
        cases b with
        | true =>
          have h := h.1 rfl
          cases want with
          | true => rw [if_pos (by simp)]; exact .inl (run _ (hag.set hb') h)
          | false => rw [if_neg (by simp)]; exact skip _ (hag.set hb') h
        | false =>
          have h := h.2 rfl
          cases want with
          | true => rw [if_neg (by simp)]; exact skip _ (hag.set hb') h
          | false => rw [if_pos (by simp)]; exact .inl (run _ (hag.set hb') h)
      · rename_i vs hb
        have hb' := hag.get _ _ hb
        rw [if_neg (by simp [yielded, hj, hb'])]
        exact skip e hag h
      · exact h.elim

/-! ### Frames of temporaries -/
def dstsL (l : List Oper) : List Nat := l.filterMap (·.dst)
def Fr (S : List Nat) (a a' : Act) : Prop := ∀ i, i ∉ S → a'.tmps[i]? = a.tmps[i]?
theorem Fr.refl (S : List Nat) (a : Act) : Fr S a a := fun _ _ => rfl
theorem Fr.trans {S : List Nat} {a b c : Act} (h : Fr S a b) (h' : Fr S b c) : Fr S a c := fun i hi => (h' i hi).trans (h i hi)
theorem Fr.mono {S T : List Nat} {a b : Act} (h : Fr S a b) (hs : ∀ i ∈ S, i ∈ T) : Fr T a b := fun i hi => h i fun h' => hi (hs i h')
theorem Fr.put {S : List Nat} {a : Act} {d : Option Nat} {v : Value} (h : ∀ i, d = some i → i ∈ S) : Fr S a (a.put d v) := fun i hi =>
  tmps_put a d v i fun h' => hi (h i h')

theorem sxOps_sound {ops : Array Oper} (hC : Callable P C) : ∀ (l : List Oper) (k : Nat) (e : Env) (a : Act) (w : World) (K : Env → Tr), (∀ ch a' w', a'.defers = D → Fr (dstsL l) a a' → R (.panicked ch) w' → Q (.panic ch) a' w') → (∀ j, l[j]? = ops[k + j]?) → Agree D n e a → (sxOps P C n ops.toList l e K).wp P R Ks w →
      (∀ e' a' w', Agree D n e' a' → Fr (dstsL l) a a' → (K e').wp P R Ks w' → Q .normal a' w') → wpOps P ops Q (List.range' k l.length) a w
  | [], k, e, a, w, K, _, _, hag, h, hK => hK e a w hag (Fr.refl _ _) h
  | o :: l, k, e, a, w, K, hp, hl, hag, h, hK => by
    have ho : ops[k]? = some o := by simpa using (hl 0).symm
    rw [List.length_cons, List.range'_succ, wpOps_cons]
    refine sxOne_sound hC hag ho h (fun e' a' w' hag' ha' hk => ?_) (fun ch w' hr => hp ch a w' hag.defers (Fr.refl _ _) hr)
    obtain ⟨v, rfl⟩ := ha'
    have hput : Fr (dstsL (o :: l)) a (a.put o.dst v) := Fr.put (d := o.dst) (v := v) fun i hi => by simp [dstsL, hi]
    have hmono : ∀ i ∈ dstsL l, i ∈ dstsL (o :: l) := fun i hi => by
      cases ho' : o.dst <;> simp [dstsL, ho'] at hi ⊢ <;> first | exact hi | exact .inr hi
    refine sxOps_sound hC l (k + 1) e' _ w' K (fun ch a2 w2 hd hf hr => hp ch a2 w2 hd (hput.trans (hf.mono hmono)) hr) (fun j => by have := hl (j + 1); simpa [Nat.add_assoc, Nat.add_comm 1 j] using this) hag' hk (fun e'' a'' w'' h1 h2 h3 => hK e'' a'' w'' h1 (hput.trans (h2.mono hmono)) h3)

end
end Go.Proofs.YthfcneahnldgnaaGreat.Vk
