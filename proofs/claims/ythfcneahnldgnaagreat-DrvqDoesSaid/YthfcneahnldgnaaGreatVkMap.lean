/- Vk, part 9: maps from int to int as things that a call owns. -/
import Derived.Test.YthfcneahnldgnaaGreatVkSep
import Derived.Maps.Keyed
namespace Go.Proofs.YthfcneahnldgnaaGreat.Vk
open Go Go.MapKept
set_option linter.unusedSimpArgs false
set_option linter.unusedVariables false

def kvII (p : Int × Int) : Value × Value := (.int .i64 p.1, .int .i64 p.2)
structure MapAt (w : World) (r : Nat) (m : List (Int × Int)) (A : Array MapEntry) (clock : Nat) : Prop where
  heap : w.heap[r]? = some (.map A clock)
  stamped : Stamped A clock
  eq : A.toList.map (fun e => (e.key, e.val)) = m.map kvII
theorem MapAt.key {w : World} {r : Nat} {m : List (Int × Int)} {A : Array MapEntry} {clock : Nat} (h : MapAt w r m A clock) : ∀ x ∈ A.toList, IsKey (.int .i64) x.key := by
  intro x hx
  have : (x.key, x.val) ∈ m.map kvII := by rw [← h.eq]; exact List.mem_map.2 ⟨x, hx, rfl⟩
  obtain ⟨p, _, hp⟩ := List.mem_map.1 this
  simp only [kvII, Prod.mk.injEq] at hp
  rw [← hp.1]; rfl
theorem MapAt.nodup {w : World} {r : Nat} {m : List (Int × Int)} {A : Array MapEntry} {clock : Nat} (h : MapAt w r m A clock) : (m.map (·.1)).Nodup := by
  have h1 := h.stamped.2.2
  have h2 : A.toList.map (·.key) = m.map (fun p => Value.int .i64 p.1) := by
    have := congrArg (List.map Prod.fst) h.eq
    simpa [List.map_map, Function.comp_def, kvII] using this
  rw [h2] at h1
  have h3 : m.map (fun p => Value.int .i64 p.1) = (m.map (·.1)).map (Value.int .i64) := by simp
  rw [h3] at h1
  unfold List.Nodup at h1 ⊢
  rw [List.pairwise_map] at h1
  exact h1.imp fun hne e => hne (by rw [e])
theorem MapAt.find {P : Program} {w : World} {r : Nat} {m : List (Int × Int)} {A : Array MapEntry} {clock : Nat} {kt : TypeId} (hk : P.underlying kt = some (.int .i64)) (h : MapAt w r m A clock) (k : Int) :
    ((Instr.findKey kt (.int .i64 k) A.toList).run P w = .ok none w ∧ ∀ p ∈ m, p.1 ≠ k) ∨ ∃ j v, (Instr.findKey kt (.int .i64 k) A.toList).run P w = .ok (some (j, .int .i64 v)) w ∧ m[j]? = some (k, v) := by
  rcases findNow_spec (d := .int .i64) (k := .int .i64 k) rfl A.toList 0 h.key with ⟨h1, h2⟩ | ⟨j, e, h1, h2, h3⟩
  · refine .inl ⟨run_findKey hk h1, fun p hp hpk => ?_⟩
    have : kvII p ∈ A.toList.map (fun e => (e.key, e.val)) := by rw [h.eq]; exact List.mem_map.2 ⟨p, hp, rfl⟩
    obtain ⟨x, hx, hx'⟩ := List.mem_map.1 this
    simp only [kvII, Prod.mk.injEq] at hx'
    exact h2 x hx (by rw [hx'.1, hpk])
  · have h4 : (A.toList.map (fun e => (e.key, e.val)))[j]? = some (e.key, e.val) := by simp [List.getElem?_map, h2]
    rw [h.eq, List.getElem?_map] at h4
    obtain ⟨p, hp, hp'⟩ := Option.map_eq_some_iff.1 h4
    simp only [kvII, Prod.mk.injEq] at hp'
    rw [h3] at hp'
    have hk' : p.1 = k := by injection hp'.1
    refine .inr ⟨j, p.2, ?_, by rw [hp, ← hk']⟩
    rw [hp'.2]
    simpa using run_findKey hk h1

def mapR (r : Nat) (m : List (Int × Int)) : Res where
  p w F := F = [r] ∧ ∃ A clock, MapAt w r m A clock
  keep := by
    rintro w w' F G ⟨rfl, A, clock, h⟩ hk hd
    refine ⟨rfl, A, clock, ⟨?_, h.stamped, h.eq⟩⟩
    rw [hk.blk r (Array.getElem?_eq_some_iff.1 h.heap).1 (hd r (by simp))]; exact h.heap
  lt := by
    rintro w F ⟨rfl, A, clock, h⟩ b hb
    simp at hb; subst hb
    exact (Array.getElem?_eq_some_iff.1 h.heap).1

section
variable {P : Program} {R : Ending → World → Prop} {Ks : Conts} {w0 w w' : World} {W : List Nat} {Rs B : List Res}
theorem mapR_nodup {r : Nat} {m : List (Int × Int)} (h : St w0 W w Rs) (i : Nat) (hi : Rs[i]? = some (mapR r m)) : (m.map (·.1)).Nodup := by
  obtain ⟨F, _, A, clock, hm⟩ := h.get i hi
  exact hm.nodup
theorem t_makeMap {t : TypeId} {c : Option Nat → Tr} (h : St w0 W w Rs) (hc : ∀ r w', St w0 W w' (mapR r [] :: Rs) → (c (some r)).wp P R Ks w') : (Tr.sem (Instr.makeMap t none) .M c).wp P R Ks w := by
  refine t_sem (k := .M) (w' := w.alloc (.map #[] 0)) (some w.heap.size) rfl (hc _ _ (h.push (F' := [w.heap.size]) ((Keep.refl _ _).alloc _) ⟨rfl, #[], 0, ?_, stamped_empty 0, rfl⟩ (by simp)))
  show (w.heap.push _)[w.heap.size]? = _
  simp
theorem t_lookupII {t kt e : TypeId} {r : Nat} {m : List (Int × Int)} {k : Int} {c : Int × Bool × Unit → Tr} (h : St w0 W w Rs) (i : Nat) (hi : Rs[i]? = some (mapR r m)) (ht : P.underlying t = some (.map kt e)) (hk : P.underlying kt = some (.int .i64)) (hz : ∀ w, (zeroValue e).run P w = .ok (.int .i64 0) w)
    (hno : (∀ p ∈ m, p.1 ≠ k) → (c (0, false, ())).wp P R Ks w) (hyes : ∀ v, (k, v) ∈ m → (c (v, true, ())).wp P R Ks w) : (Tr.sem (Instr.lookup t (.map (some r)) (.int .i64 k) true) (.tup [.I, .B]) c).wp P R Ks w := by
  obtain ⟨F, _, A, clock, hm⟩ := h.get i hi
  have hck : (Instr.checkKey A.isEmpty 10000 kt (.int .i64 k)).run P w = .ok () w := MapKept.run_checkKey hk (show IsKey (.int .i64) (.int .i64 k) from rfl) _ 9999
  rcases hm.find hk k with ⟨h1, h2⟩ | ⟨j, v, h1, h2⟩
  · refine t_sem (k := .tup [.I, .B]) (w' := w) (0, false, ()) ?_ (hno h2)
    simp [Instr.lookup, run_underlying ht, MapKept.run_getObj_map hm.heap, hck, h1, hz, Result.andThen]
    rfl
  · refine t_sem (k := .tup [.I, .B]) (w' := w) (v, true, ()) ?_ (hyes v (List.mem_of_getElem? h2))
    simp [Instr.lookup, run_underlying ht, MapKept.run_getObj_map hm.heap, hck, h1, Result.andThen]
    rfl
theorem erase_filter {m : List (Int × Int)} (hn : (m.map (·.1)).Nodup) {j : Nat} {k v : Int} (hj : m[j]? = some (k, v)) : m.eraseIdx j = m.filter (fun p => p.1 ≠ k) := by
  induction m generalizing j with
  | nil => simp at hj
  | cons x m ih =>
    simp only [List.map_cons, List.nodup_cons] at hn
    cases j with
    | zero =>
      simp at hj
      subst hj
      simp only [List.eraseIdx_cons_zero, ne_eq, not_true, decide_false, Bool.false_eq_true, not_false_eq_true, List.filter_cons_of_neg]
      rw [List.filter_eq_self.2]
      intro p hp
      simp only [decide_not, Bool.not_eq_true', decide_eq_false_iff_not]
      intro he
      exact hn.1 (List.mem_map.2 ⟨p, hp, he⟩)
    | succ j =>
      have hj' : m[j]? = some (k, v) := by simpa using hj
      have hx : x.1 ≠ k := fun he => hn.1 (List.mem_map.2 ⟨(k, v), List.mem_of_getElem? hj', by simp [he]⟩)
      rw [List.eraseIdx_cons_succ, ih hn.2 hj', List.filter_cons_of_pos (by simpa using hx)]
/-- delete(m, k), k being in it. -/
theorem t_deleteII {t kt e ty : TypeId} {r : Nat} {m : List (Int × Int)} {k v : Int} {c : Unit → Tr} (h : St w0 W w Rs) (i : Nat) (hi : Rs[i]? = some (mapR r m)) (ht : P.underlying t = some (.map kt e)) (hk : P.underlying kt = some (.int .i64)) {kt' : TypeId} (hin : (k, v) ∈ m)
    (hc : ∀ w', St w0 W w' (Rs.set i (mapR r (m.filter fun p => p.1 ≠ k))) → (c ()).wp P R Ks w') : (Tr.sem (Builtin.delete_ #[t, kt'] ty #[.map (some r), .int .i64 k]) (.tup []) c).wp P R Ks w := by
  obtain ⟨F, ⟨rfl, A, clock, hm⟩, hu⟩ := h.updAt i hi
  have hck : (Instr.checkKey A.isEmpty 10000 kt (.int .i64 k)).run P w = .ok () w := MapKept.run_checkKey hk (show IsKey (.int .i64) (.int .i64 k) from rfl) _ 9999
  rcases hm.find hk k with ⟨h1, h2⟩ | ⟨j, v', h1, h2⟩
  · exact absurd rfl (h2 _ hin)
  · have hlt := (Array.getElem?_eq_some_iff.1 hm.heap).1
    refine t_sem (k := .tup []) (w' := { w with heap := w.heap.setIfInBounds r (.map (A.eraseIdxIfInBounds j) clock) }) () ?_ (hc _ (hu _ _ [r] ((Keep.refl _ _).setObj (.inl (by simp))) ⟨rfl, A.eraseIdxIfInBounds j, clock, ?_, stamped_erase hm.stamped j, ?_⟩ fun b hb => .inl hb))
    · simp [Builtin.delete_, run_underlying ht, MapKept.run_getObj_map hm.heap, hck, h1, MapKept.run_setObj_map _ hm.heap, Result.andThen]
      rfl
    · simp [Array.getElem?_setIfInBounds, hlt]
    · have hjl : j < A.size := by
        have : j < m.length := by
          rcases Nat.lt_or_ge j m.length with h' | h'
          · exact h'
          · rw [List.getElem?_eq_none h'] at h2; cases h2
        have hl := congrArg List.length hm.eq
        simp at hl
        omega
      rw [← erase_filter hm.nodup h2]
      unfold Array.eraseIdxIfInBounds
      rw [dif_pos hjl]
      simp only [Array.toList_eraseIdx]
      rw [ChangeMaps.map_eraseIdx, hm.eq, ChangeMaps.map_eraseIdx]
/-- m[k] = v, k not being in it. -/
theorem t_updateII {t kt e : TypeId} {r : Nat} {m : List (Int × Int)} {k v : Int} {c : Tr} (h : St w0 W w Rs) (i : Nat) (hi : Rs[i]? = some (mapR r m)) (ht : P.underlying t = some (.map kt e)) (hk : P.underlying kt = some (.int .i64)) (hno : ∀ p ∈ m, p.1 ≠ k)
    (hc : ∀ w', St w0 W w' (Rs.set i (mapR r (m ++ [(k, v)]))) → c.wp P R Ks w') : (Tr.semU (Instr.mapUpdate t (.map (some r)) (.int .i64 k) (.int .i64 v)) c).wp P R Ks w := by
  obtain ⟨F, ⟨rfl, A, clock, hm⟩, hu⟩ := h.updAt i hi
  have hck : (Instr.checkKey false 10000 kt (.int .i64 k)).run P w = .ok () w := MapKept.run_checkKey hk (show IsKey (.int .i64) (.int .i64 k) from rfl) _ 9999
  rcases hm.find hk k with ⟨h1, h2⟩ | ⟨j, v', h1, h2⟩
  · have hlt := (Array.getElem?_eq_some_iff.1 hm.heap).1
    have hno' : ∀ x ∈ A.toList, x.key ≠ .int .i64 k := by
      intro x hx he
      have : (x.key, x.val) ∈ m.map kvII := by rw [← hm.eq]; exact List.mem_map.2 ⟨x, hx, rfl⟩
      obtain ⟨p, hp, hp'⟩ := List.mem_map.1 this
      simp only [kvII, Prod.mk.injEq] at hp'
      rw [he] at hp'
      exact h2 p hp (by injection hp'.1)
    refine ⟨{ w with heap := w.heap.setIfInBounds r (.map (A.push ⟨.int .i64 k, .int .i64 v, clock⟩) (clock + 1)) }, ?_, hc _ (hu _ _ [r] ((Keep.refl _ _).setObj (.inl (by simp))) ⟨rfl, A.push ⟨.int .i64 k, .int .i64 v, clock⟩, clock + 1, ?_, stamped_push (val := .int .i64 v) hm.stamped hno', ?_⟩ fun b hb => .inl hb)⟩
    · simp [Instr.mapUpdate, run_underlying ht, MapKept.run_getObj_map hm.heap, hck, h1, MapKept.run_setObj_map _ hm.heap, Result.andThen]
    · simp [Array.getElem?_setIfInBounds, hlt]
    · simp [hm.eq, kvII]
  · exact absurd rfl (hno _ (List.mem_of_getElem? h2))
end
end Go.Proofs.YthfcneahnldgnaaGreat.Vk
