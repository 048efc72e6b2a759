/- Vk, part 7: memory: what stays, blocks, slices of the call's own, and what the model's greater operations do to them. -/
import Derived.Test.YthfcneahnldgnaaGreatVkFn
import Derived.Laws.IdiomStrings
import Derived.Lib.Hide
namespace Go.Proofs.YthfcneahnldgnaaGreat.Vk
open Go
set_option linter.unusedSimpArgs false
set_option linter.unusedVariables false

/-- From w to w' nothing that was there has changed but the blocks of F. -/
structure Keep (F : List Nat) (w w' : World) : Prop where
  os : w'.os = w.os
  tape : w'.tape = w.tape
  output : w'.output = w.output
  size : w.heap.size ≤ w'.heap.size
  blk : ∀ b, b < w.heap.size → b ∉ F → w'.heap[b]? = w.heap[b]?

theorem Keep.refl (F : List Nat) (w : World) : Keep F w w := ⟨rfl, rfl, rfl, Nat.le_refl _, fun _ _ _ => rfl⟩
theorem Keep.mono {F G : List Nat} {w w' : World} (h : Keep F w w') (hs : ∀ b ∈ F, b ∈ G ∨ w.heap.size ≤ b) : Keep G w w' :=
  ⟨h.os, h.tape, h.output, h.size, fun b hb hn => h.blk b hb fun hm => by
    rcases hs b hm with h' | h'
    · exact hn h'
    · omega⟩
theorem Keep.trans {F : List Nat} {a b c : World} (h : Keep F a b) (h' : Keep F b c) : Keep F a c :=
  ⟨h'.os.trans h.os, h'.tape.trans h.tape, h'.output.trans h.output, Nat.le_trans h.size h'.size, fun i hi hn => (h'.blk i (by have := h.size; omega) hn).trans (h.blk i hi hn)⟩
/-- One step more; what it changes beyond F is new. -/
theorem Keep.then {F G : List Nat} {a b c : World} (h : Keep F a b) (h' : Keep G b c) (hs : ∀ x ∈ G, x ∈ F ∨ a.heap.size ≤ x) : Keep F a c :=
  ⟨h'.os.trans h.os, h'.tape.trans h.tape, h'.output.trans h.output, Nat.le_trans h.size h'.size, fun i hi hn => (h'.blk i (by have := h.size; omega) fun hm => by
    rcases hs i hm with h1 | h1
    · exact hn h1
    · omega).trans (h.blk i hi hn)⟩
theorem Keep.drew {F : List Nat} {w w' : World} (h : Keep F w w') : Keep F w w'.drew := ⟨h.os, h.tape, h.output, h.size, h.blk⟩
theorem Keep.alloc {F : List Nat} {w w' : World} (h : Keep F w w') (o : Obj) : Keep F w (w'.alloc o) :=
  ⟨h.os, h.tape, h.output, by simp; have := h.size; omega, fun b hb hn => by
    rw [← h.blk b hb hn]
    have := h.size
    simp only [World.alloc, Array.getElem?_push]
    rw [if_neg (by omega)]⟩
theorem heap_setCell (w : World) (b o : Nat) (v : Value) (i : Nat) : (w.setCell ⟨b, o, none⟩ v).heap[i]? = if b = i then (w.heap[i]?).map (fun | .cells c e f => .cells (c.setIfInBounds o v) e f | x => x) else w.heap[i]? := by
  simp only [World.setCell, Array.getElem?_modify]
  split
  · cases w.heap[i]? with
    | none => rfl
    | some x => cases x <;> simp
  · rfl
theorem Keep.setCell {F : List Nat} {w w' : World} (h : Keep F w w') {b o : Nat} {v : Value} (hb : b ∈ F ∨ w.heap.size ≤ b) : Keep F w (w'.setCell ⟨b, o, none⟩ v) :=
  ⟨h.os, h.tape, h.output, by simp; exact h.size, fun i hi hn => by
    rw [heap_setCell, if_neg (fun he => by
      subst he
      rcases hb with h1 | h1
      · exact hn h1
      · omega)]
    exact h.blk i hi hn⟩
theorem Keep.setObj {F : List Nat} {w w' : World} (h : Keep F w w') {b : Nat} {o : Obj} (hb : b ∈ F ∨ w.heap.size ≤ b) : Keep F w { w' with heap := w'.heap.setIfInBounds b o } :=
  ⟨h.os, h.tape, h.output, by simp; exact h.size, fun i hi hn => by
    simp only [Array.getElem?_setIfInBounds]
    rw [if_neg (fun he => by
      subst he
      rcases hb with h1 | h1
      · exact hn h1
      · omega)]
    exact h.blk i hi hn⟩

/-- Block b holds just these cells. -/
def Blk (w : World) (b : Nat) (cs : List Value) (T : TypeId) : Prop := w.heap[b]? = some (.cells cs.toArray T (0, 0))
theorem Blk.lt {w : World} {b : Nat} {cs : List Value} {T : TypeId} (h : Blk w b cs T) : b < w.heap.size := (Array.getElem?_eq_some_iff.1 h).1
theorem Keep.keeps {F : List Nat} {w w' : World} (h : Keep F w w') {b : Nat} {cs : List Value} {T : TypeId} (hb : Blk w b cs T) (hn : b ∉ F) : Blk w' b cs T :=
  (h.blk b hb.lt hn).trans hb
theorem Blk.cell {w : World} {b : Nat} {cs : List Value} {T : TypeId} (h : Blk w b cs T) (o : Nat) : w.cell? ⟨b, o, none⟩ = cs[o]? := by
  unfold Blk at h
  simp [World.cell?, h]
theorem Blk.frozen {w : World} {b : Nat} {cs : List Value} {T : TypeId} (h : Blk w b cs T) (o : Nat) : w.frozen? ⟨b, o, none⟩ = false := by
  unfold Blk at h
  simp [World.frozen?, h]
theorem Blk.drew {w : World} {b : Nat} {cs : List Value} {T : TypeId} (h : Blk w b cs T) : Blk w.drew b cs T := h
theorem Blk.alloc {w : World} {b : Nat} {cs : List Value} {T : TypeId} (h : Blk w b cs T) (o : Obj) : Blk (w.alloc o) b cs T := by
  have := h.lt
  unfold Blk at *
  simp only [World.alloc, Array.getElem?_push]
  rw [if_neg (by omega)]; exact h
theorem Blk.new (w : World) (cs : List Value) (T : TypeId) : Blk (w.alloc (.cells cs.toArray T (0, 0))) w.heap.size cs T := by
  show (w.heap.push _)[w.heap.size]? = _
  simp
theorem Blk.set {w : World} {b : Nat} {cs : List Value} {T : TypeId} (h : Blk w b cs T) (o : Nat) (v : Value) : Blk (w.setCell ⟨b, o, none⟩ v) b (cs.set o v) T := by
  unfold Blk at *
  rw [heap_setCell, if_pos rfl, h]
  simp
theorem Blk.set_ne {w : World} {b b' : Nat} {cs : List Value} {T : TypeId} (h : Blk w b cs T) (o : Nat) (v : Value) (hn : b' ≠ b) : Blk (w.setCell ⟨b', o, none⟩ v) b cs T := by
  unfold Blk at *
  rw [heap_setCell, if_neg hn]; exact h

@[simp] theorem add_mk (b o n : Nat) : (Addr.mk b o none).add n = ⟨b, o + n, none⟩ := by
  unfold Addr.add
  split
  · rename_i h; subst h; rfl
  · rfl

/-! ### Steps of a tree over known blocks -/
section
variable {P : Program} {R : Ending → World → Prop} {Ks : Conts} {w : World}

theorem t_ret {v : Value} (h : R (.returned v) w) : (Tr.ret v).wp P R Ks w := h
theorem hasL_blk {b o : Nat} {cs : List Value} {T : TypeId} (hb : Blk w b cs T) : ∀ (vs : List Value) (i : Nat), (∀ j v, vs[j]? = some v → cs[o + i + j]? = some v) → hasL w ⟨b, o, none⟩ i vs
  | [], _, _ => trivial
  | v :: r, i, h => ⟨by rw [add_mk, hb.cell]; exact h 0 v rfl, hasL_blk hb r (i + 1) fun j u hj => by have := h (j + 1) u (by simpa using hj); rw [show o + (i + 1) + j = o + i + (j + 1) by omega]; exact this⟩
theorem hasL_take {b o : Nat} {cs : List Value} {T : TypeId} (hb : Blk w b cs T) {vs : List Value} (h : (cs.drop o).take vs.length = vs) : hasL w ⟨b, o, none⟩ 0 vs :=
  hasL_blk hb vs 0 fun j v hj => by
    have hlt : j < vs.length := by
      rcases Nat.lt_or_ge j vs.length with h' | h'
      · exact h'
      · rw [List.getElem?_eq_none h'] at hj; cases hj
    have h2 : ((cs.drop o).take vs.length)[j]? = some v := by rw [h]; exact hj
    rw [List.getElem?_take_of_lt hlt, List.getElem?_drop] at h2
    simpa using h2

/-- A load from a block that is known. -/
theorem t_ld {b o : Nat} {k : Kd} {c : k.D → Tr} {cs : List Value} {T : TypeId} (hb : Blk w b cs T) (x : k.D) (hx : (cs.drop o).take (k.cells x).length = k.cells x) (h : (c x).wp P R Ks w) :
    (Tr.ld ⟨b, o, none⟩ k c).wp P R Ks w := ⟨x, hasL_take hb hx, h⟩
/-- A store of one cell into a block that is known. -/
theorem t_st {b o : Nat} {v : Value} {c : Tr} {cs : List Value} {T : TypeId} (hb : Blk w b cs T) (ho : o < cs.length) (hv : v.oneCell' = true) (h : c.wp P R Ks (w.setCell ⟨b, o, none⟩ v)) :
    (Tr.st ⟨b, o, none⟩ [v] c).wp P R Ks w := by
  refine ⟨hv, ⟨cs[o], ?_⟩, ?_, ?_⟩
  · rw [add_mk, Nat.add_zero, hb.cell]; simp [ho]
  · rw [add_mk, hb.frozen]
  · simpa [stW] using h

def setL (cs : List Value) : Nat → List Value → List Value
  | _, [] => cs
  | o, v :: r => setL (cs.set o v) (o + 1) r
theorem setL_length : ∀ (vs cs : List Value) (o : Nat), (setL cs o vs).length = cs.length
  | [], _, _ => rfl
  | v :: r, cs, o => by simp [setL, setL_length r]
/-- A store of several cells: into a world of which all that counts is known. -/
theorem stW_blk {b : Nat} {T : TypeId} {F : List Nat} {w0 : World} (hF : b ∈ F ∨ w0.heap.size ≤ b) : ∀ (vs : List Value) (o i : Nat) (cs : List Value) (w : World) (K : World → Prop), Blk w b cs T → o + i + vs.length ≤ cs.length → (∀ v ∈ vs, v.oneCell' = true) →
    Keep F w0 w → (∀ w', Blk w' b (setL cs (o + i) vs) T → Keep F w0 w' → (∀ b', b' ≠ b → w'.heap[b']? = w.heap[b']?) → w'.heap.size = w.heap.size → K w') → stW w ⟨b, o, none⟩ i vs K
  | [], o, i, cs, w, K, hb, _, _, hk, h => h w hb hk (fun _ _ => rfl) rfl
  | v :: r, o, i, cs, w, K, hb, hl, hv, hk, h => by
    simp only [List.length_cons] at hl
    refine ⟨hv v (by simp), ⟨cs[o + i]'(by omega), ?_⟩, ?_, ?_⟩
    · rw [add_mk, hb.cell, List.getElem?_eq_getElem]
    · rw [add_mk, hb.frozen]
    · rw [add_mk]
      refine stW_blk hF r o (i + 1) _ _ K (hb.set (o + i) v) (by simp; omega) (fun u hu => hv u (by simp [hu])) (hk.setCell hF) (fun w' h1 h2 h3 h4 => h w' ?_ h2 (fun b' hn => ?_) ?_)
      · simpa [setL, Nat.add_assoc] using h1
      · rw [h3 b' hn, heap_setCell, if_neg (Ne.symm hn)]
      · simpa using h4

/-! ### Slices of the call's own -/
/-- Of a slice type: its element's type, cells, bytes, zero value. -/
def slI (P : Program) (t : TypeId) : Option (TypeId × Nat × Nat × Value) :=
  match P.underlying t with
  | some (.slice e) => match P.info? e with
    | some i => match i.zero with
      | some z => some (e, i.size, i.bytes, z)
      | none => none
    | none => none
  | _ => none
theorem slI_spec {t e : TypeId} {sz by_ : Nat} {z : Value} (h : slI P t = some (e, sz, by_, z)) : P.underlying t = some (.slice e) ∧ ∃ i, P.info? e = some i ∧ i.size = sz ∧ i.bytes = by_ ∧ i.zero = some z := by
  unfold slI at h
  split at h
  · rename_i e' hu
    split at h
    · rename_i i hi
      split at h
      · rename_i z' hz
        cases h
        exact ⟨hu, i, hi, rfl, rfl, hz⟩
      · cases h
    · cases h
  · cases h

structure Own (w : World) (s : Sl) (E sz : Nat) (cs : List Value) (F : List Nat) : Prop where
  len : cs.length = s.n * sz
  cap : s.n ≤ s.c
  at_ : (s.a = none ∧ s.c = 0 ∧ F = []) ∨ ∃ b o blk, s.a = some ⟨b, o, none⟩ ∧ F = [b] ∧ Blk w b blk E ∧ o + s.c * sz ≤ blk.length ∧ (blk.drop o).take cs.length = cs

theorem Own.nil (w : World) (E sz : Nat) : Own w ⟨none, 0, 0⟩ E sz [] [] := ⟨by simp, Nat.le_refl _, .inl ⟨rfl, rfl, rfl⟩⟩
theorem Own.keep {w w' : World} {s : Sl} {E sz : Nat} {cs : List Value} {F G : List Nat} (h : Own w s E sz cs F) (hk : Keep G w w') (hd : ∀ b ∈ F, b ∉ G) : Own w' s E sz cs F :=
  ⟨h.len, h.cap, by
    rcases h.at_ with h' | ⟨b, o, blk, h1, rfl, h2, h3⟩
    · exact .inl h'
    · exact .inr ⟨b, o, blk, h1, rfl, hk.keeps h2 (hd b (by simp)), h3⟩⟩
theorem Own.lt {w : World} {s : Sl} {E sz : Nat} {cs : List Value} {F : List Nat} (h : Own w s E sz cs F) : ∀ b ∈ F, b < w.heap.size := by
  rcases h.at_ with ⟨_, _, rfl⟩ | ⟨b, o, blk, _, rfl, h2, _⟩
  · simp
  · intro x hx; simp at hx; subst hx; exact h2.lt
theorem Own.fresh {w : World} {s : Sl} {E sz : Nat} {cs : List Value} (b : Nat) (blk : List Value) (hs : s.a = some ⟨b, 0, none⟩) (hb : Blk w b blk E) (hl : cs.length = s.n * sz) (hc : s.n ≤ s.c) (hlen : s.c * sz ≤ blk.length) (ht : blk.take cs.length = cs) : Own w s E sz cs [b] :=
  ⟨hl, hc, .inr ⟨b, 0, blk, hs, rfl, hb, by simpa using hlen, by simpa using ht⟩⟩

/-- make([]T, n) -/
theorem run_make_n {t E sz by_ : Nat} {z : Value} (hI : slI P t = some (E, sz, by_, z)) (hz : z.cells.size = sz) (n : Nat) (hn : by_ * n ≤ 281474976710656) (hm : n ≤ 9223372036854775807) :
    (Instr.makeSlice t (.int .i64 (n : Int)) (.int .i64 (n : Int))).run P w = .ok (.slice (some ⟨w.heap.size, 0, none⟩) n n) (w.alloc (.cells (zeroRow z.cells.toList n).toArray E (0, 0))) := by
  obtain ⟨hu, i, hi, hs, hb, hzz⟩ := slI_spec hI
  have h := run_make (P := P) w t E i z hu hi hzz .i64 .i64 n n (by omega) (Int.le_refl _) (by rw [hb, ← Int.natCast_mul]; omega) (by omega)
  rw [h]
  simp only [Int.toNat_natCast, madeCells, hs, ← hz, zeroRow_eq]

/-- What is read where a slice or a string is the source of an append or a copy. -/
structure Src (P : Program) (w : World) (sz : Nat) (x : Value) (m : Nat) (xs : List Value) : Prop where
  len : ∀ w', (Builtin.lenOf x).run P w' = .ok m w'
  read : ∀ w', w'.heap = w.heap → (Builtin.firstCells sz m x).run P w' = .ok xs.toArray w'
  size : xs.length = m * sz

theorem cell?_heap {w w' : World} (h : w'.heap = w.heap) (a : Addr) : w'.cell? a = w.cell? a := by simp [World.cell?, h]

theorem Src.of_own {s : Sl} {E sz : Nat} {cs : List Value} {F : List Nat} (h : Own w s E sz cs F) : Src P w sz (.slice s.a s.n s.c) s.n cs where
  len := fun w' => rfl
  size := h.len
  read := fun w' hw => by
    rcases h.at_ with ⟨h1, h2, _⟩ | ⟨b, o, blk, h1, _, hb, _, ht⟩
    · have h3 := h.cap
      have hn : s.n = 0 := by omega
      have hcs : cs = [] := List.eq_nil_of_length_eq_zero (by rw [h.len, hn]; simp)
      rw [h1, hcs]
      simp [Builtin.firstCells]
    · rw [h1]
      simp only [Builtin.firstCells]
      rw [← h.len]
      refine run_loadCells_list w' ⟨b, o, none⟩ cs fun j v hj => ?_
      rw [cell?_heap hw, add_mk, hb.cell]
      have hlt : j < cs.length := by
        rcases Nat.lt_or_ge j cs.length with h' | h'
        · exact h'
        · rw [List.getElem?_eq_none h'] at hj; cases hj
      have h2 : ((blk.drop o).take cs.length)[j]? = some v := by rw [ht]; exact hj
      rw [List.getElem?_take_of_lt hlt, List.getElem?_drop] at h2
      exact h2
theorem Src.of_blk {b m c sz T : Nat} {cs : List Value} (h : Blk w b cs T) (hl : cs.length = m * sz) : Src P w sz (.slice (some ⟨b, 0, none⟩) m c) m cs where
  len := fun w' => rfl
  size := hl
  read := fun w' hw => by
    simp only [Builtin.firstCells]
    rw [← hl]
    refine run_loadCells_list w' ⟨b, 0, none⟩ cs fun j v hj => ?_
    rw [cell?_heap hw, add_mk, h.cell]
    simpa using hj
theorem Src.of_str (s : ByteArray) : Src P w 1 (.string s) s.size (s.data.toList.map fun b => .int .u8 b.toNat) where
  len := fun w' => rfl
  size := by simp
  read := fun w' hw => by
    have : s.extract 0 s.size = s := by simp
    simp only [Builtin.firstCells, this, Sem.run_pure]
    congr 1
    apply Array.ext'
    simp

theorem setL_drop : ∀ (vs cs : List Value) (o : Nat), o + vs.length ≤ cs.length → setL cs o vs = cs.take o ++ vs ++ cs.drop (o + vs.length)
  | [], cs, o, _ => by simp [setL]
  | v :: r, cs, o, h => by
    simp only [List.length_cons] at h
    simp only [setL]
    rw [setL_drop r (cs.set o v) (o + 1) (by simp; omega)]
    have h1 : (cs.set o v).take (o + 1) = cs.take o ++ [v] := by
      rw [List.take_succ_eq_append_getElem (by simp; omega)]
      rw [List.take_set, List.set_eq_of_length_le (by simp; omega)]; simp
    have h2 : (cs.set o v).drop (o + 1 + r.length) = cs.drop (o + 1 + r.length) := by rw [List.drop_set]; rw [if_pos (by omega)]
    rw [h1, h2]
    simp [Nat.add_assoc, Nat.add_comm 1]

theorem run_storeCells_blk {b : Nat} {T : TypeId} (vs : List Value) (o : Nat) (cs : List Value) (w : World) (hb : Blk w b cs T) (hl : o + vs.length ≤ cs.length) (hv : ∀ v ∈ vs, v.oneCell' = true) :
    ∃ w', (storeCells ⟨b, o, none⟩ vs).run P w = .ok () w' ∧ Blk w' b (setL cs o vs) T ∧ Keep [b] w w' ∧ w'.heap.size = w.heap.size := by
  have h := stW_blk (F := [b]) (w0 := w) (.inl (by simp)) vs o 0 cs w (fun w' => Blk w' b (setL cs o vs) T ∧ Keep [b] w w' ∧ w'.heap.size = w.heap.size) hb (by simpa using hl) hv (Keep.refl _ _)
    (fun w' h1 h2 h3 h4 => ⟨by simpa using h1, h2, h4⟩)
  obtain ⟨w', hr, hK⟩ := run_storeCells_stW (P := P) vs 0 w ⟨b, o, none⟩ _ h
  exact ⟨w', hr, hK⟩

/-- append(s, x..), s being the call's own. -/
theorem run_append_own {t u ty E sz by_ : Nat} {z : Value} (hI : slI P t = some (E, sz, by_, z)) (hzs : z.cells.size = sz) (hu : ∃ d, P.underlying u = some d ∧ ∀ k, d ≠ .int k)
    {s : Sl} {cs : List Value} {F : List Nat} (hown : Own w s E sz cs F) {x : Value} {m : Nat} {xs : List Value} (hsrc : Src P w sz x m xs) (hone : ∀ v ∈ xs, v.oneCell' = true)
    (hby : (s.n + m) * by_ ≤ 140737488355328) (hpos : 0 < by_) :
    ∃ s' F' w', (Builtin.append_ #[t, u] ty #[.slice s.a s.n s.c, x]).run P w = .ok (.slice s'.a s'.n s'.c) w' ∧ s'.n = s.n + m ∧ Own w' s' E sz (cs ++ xs) F' ∧ Keep F w w' ∧ (∀ b ∈ F', b ∈ F ∨ w.heap.size ≤ b) := by
  obtain ⟨hut, i, hi, hs, hb, hzz⟩ := slI_spec hI
  obtain ⟨d, hud, hdn⟩ := hu
  have hzeros : (d matches TypeDesc.int _) = false := by cases d <;> first | rfl | exact absurd rfl (hdn _)
  have hlen := hsrc.len
  by_cases hfit : s.n + m ≤ s.c
  · rcases hown.at_ with ⟨h1, h2, h3⟩ | ⟨b, o, blk, h1, h3, hbk, hbl, ht⟩
    · have hn : s.n = 0 := by have := hown.cap; omega
      have hm : m = 0 := by omega
      subst hm
      have hxs : xs = [] := List.eq_nil_of_length_eq_zero (by rw [hsrc.size]; simp)
      subst hxs
      have hr := hsrc.read w rfl
      refine ⟨s, F, w, ?_, rfl, by simpa using hown, Keep.refl _ _, fun b hb => .inl hb⟩
      have hfit' : s.n ≤ s.c := by omega
      rw [h1]
      simp [Builtin.append_, run_underlying hut, run_underlying hud, sizeOf, typeInfo, hi, hs, hlen, hfit', hr, hzeros]
    · obtain ⟨w', hst, hb', hk, hsz⟩ := run_storeCells_blk (P := P) xs (o + s.n * sz) blk w hbk (by
        rw [hsrc.size]
        have : (s.n + m) * sz ≤ s.c * sz := Nat.mul_le_mul_right _ hfit
        rw [Nat.add_mul] at this
        omega) hone
      have hr := hsrc.read w rfl
      have hcl := hown.len
      refine ⟨⟨s.a, s.n + m, s.c⟩, F, w', ?_, rfl, ⟨?_, hfit, .inr ⟨b, o, _, h1, h3, hb', by rw [setL_length]; exact hbl, ?_⟩⟩, by rw [h3]; exact hk, fun b hb => .inl hb⟩
      · rw [h1]
        simp [Builtin.append_, run_underlying hut, run_underlying hud, sizeOf, typeInfo, hi, hs, hlen, hfit, hr, hst, hzeros]
      · simp only [List.length_append]; rw [hcl, hsrc.size, Nat.add_mul]
      · have hle : o + s.n * sz + xs.length ≤ blk.length := by
          rw [hsrc.size]
          have : (s.n + m) * sz ≤ s.c * sz := Nat.mul_le_mul_right _ hfit
          rw [Nat.add_mul] at this
          omega
        rw [setL_drop _ _ _ hle]
        have e1 : blk.take (o + s.n * sz) = blk.take o ++ cs := by
          rw [List.take_add]
          congr 1
          rw [← hcl]; exact ht
        rw [e1, List.append_assoc, List.append_assoc]
        have e2 : (blk.take o).length = o := by simp; omega
        rw [List.drop_append_of_le_length (by omega), List.drop_of_length_le (by omega), List.nil_append]
        rw [← List.append_assoc, List.take_append_of_le_length (by simp), List.take_of_length_le (by simp)]
  · have hgt : s.c < s.n + m := by omega
    have hnsc := nextslicecap_le hgt
    have hb1 : ¬ (281474976710656 < Builtin.nextslicecap (s.n + m) s.c * by_) := by
      have : Builtin.nextslicecap (s.n + m) s.c * by_ ≤ 2 * (s.n + m) * by_ := Nat.mul_le_mul_right _ hnsc
      rw [Nat.mul_assoc] at this
      omega
    have h63 : ¬ (9223372036854775807 < ((s.n : Int) + (m : Int))) := by
      have : s.n + m ≤ (s.n + m) * by_ := Nat.le_mul_of_pos_right _ hpos
      omega
    have hold := (Src.of_own (P := P) hown).read w.drew rfl
    have hnew := hsrc.read w.drew rfl
    have hcl := hown.len
    refine ⟨⟨some ⟨w.heap.size, 0, none⟩, s.n + m, grownCap w (s.n + m) s.c E⟩, [w.heap.size], w.drew.alloc (.cells (cs.toArray ++ (xs.toArray ++ Builtin.zeroCells z.cells (grownCap w (s.n + m) s.c E - (s.n + m)))) E), ?_, rfl, ?_, (Keep.refl _ _).drew.alloc _, fun b hb => .inr (by simp at hb; omega)⟩
    · simp [Builtin.append_, run_underlying hut, run_underlying hud, sizeOf, typeInfo, zeroValue, hi, hs, hb, hzz, hlen, hfit, hold, hnew, h63, hb1, Question.forced, newRow, grownCap, hzeros]
    · have hcap : s.n + m ≤ grownCap w (s.n + m) s.c E := by unfold grownCap; simp only [Question.cut]; omega
      have hzc : (Builtin.zeroCells z.cells (grownCap w (s.n + m) s.c E - (s.n + m))).toList.length = (grownCap w (s.n + m) s.c E - (s.n + m)) * sz := by
        simp [Builtin.zeroCells, hzs]
      have harr : cs.toArray ++ (xs.toArray ++ Builtin.zeroCells z.cells (grownCap w (s.n + m) s.c E - (s.n + m))) = ((cs ++ xs) ++ (Builtin.zeroCells z.cells (grownCap w (s.n + m) s.c E - (s.n + m))).toList).toArray := by
        apply Array.ext'; simp
      refine Own.fresh w.heap.size _ rfl (by rw [harr]; exact Blk.new w.drew _ E) ?_ hcap ?_ (by rw [List.take_append_of_le_length (by simp), List.take_of_length_le (by simp)])
      · simp only [List.length_append]; rw [hcl, hsrc.size, Nat.add_mul]
      · simp only [List.length_append, hzc]
        rw [hcl, hsrc.size, ← Nat.add_mul, ← Nat.add_mul]
        exact Nat.mul_le_mul_right _ (by omega)

/-! ### Bytes -/
def u8s (l : List UInt8) : List Value := l.map fun b => .int .u8 (b.toNat : Int)
@[simp] theorem u8s_length (l : List UInt8) : (u8s l).length = l.length := by simp [u8s]
theorem u8s_oneCell (l : List UInt8) : ∀ v ∈ u8s l, v.oneCell' = true := by
  intro v hv; simp only [u8s, List.mem_map] at hv; obtain ⟨b, _, rfl⟩ := hv; rfl
theorem u8s_get {l : List UInt8} {j : Nat} (hj : j < l.length) : (u8s l)[j]? = some (.int .u8 (l[j].toNat : Int)) := by simp [u8s, hj]

def isBytesT (P : Program) (src dst : TypeId) : Bool := match P.underlying src with
  | some (.slice e) => match P.underlying e with
    | some (.int .u8) => match P.underlying dst with
      | some .string => true
      | _ => false
    | _ => false
  | _ => false
theorem isBytesT_spec {src dst : TypeId} (h : isBytesT P src dst = true) : ∃ e, P.underlying src = some (.slice e) ∧ P.underlying e = some (.int .u8) ∧ P.underlying dst = some .string := by
  unfold isBytesT at h
  split at h
  · rename_i e hs
    split at h
    · rename_i he
      split at h
      · rename_i hd; exact ⟨e, hs, he, hd⟩
      · cases h
    · cases h
  · cases h

theorem run_str_own {src dst : TypeId} (h : isBytesT P src dst = true) {s : Sl} {E : Nat} {l : List UInt8} {F : List Nat} (hown : Own w s E 1 (u8s l) F) :
    (convert src dst (.slice s.a s.n s.c)).run P w = .ok (.string ⟨l.toArray⟩) w := by
  obtain ⟨e, hs, he, hd⟩ := isBytesT_spec h
  have hn : s.n = l.length := by have := hown.len; simp at this; omega
  rcases hown.at_ with ⟨h1, h2, _⟩ | ⟨b, o, blk, h1, _, hb, _, ht⟩
  · have h3 := hown.cap
    have hl : l = [] := List.eq_nil_of_length_eq_zero (by omega)
    subst hl
    rw [h1]
    simp [convert, run_underlying hs, run_underlying he, run_underlying hd, Conv.bytesToString]
    rfl
  · rw [h1, hn]
    refine run_convert_bytes_back w src dst e ⟨b, o, none⟩ s.c l hs he hd fun j hj => ?_
    rw [add_mk, hb.cell]
    have h2 : ((blk.drop o).take (u8s l).length)[j]? = (u8s l)[j]? := by rw [ht]
    rw [List.getElem?_take_of_lt (by simpa using hj), List.getElem?_drop, u8s_get hj] at h2
    exact h2
theorem run_str_blk {src dst : TypeId} (h : isBytesT P src dst = true) {b E c : Nat} {l : List UInt8} (hb : Blk w b (u8s l) E) (hc : l.length ≤ c) :
    (convert src dst (.slice (some ⟨b, 0, none⟩) l.length c)).run P w = .ok (.string ⟨l.toArray⟩) w := by
  obtain ⟨e, hs, he, hd⟩ := isBytesT_spec h
  refine run_convert_bytes_back w src dst e ⟨b, 0, none⟩ c l hs he hd fun j hj => ?_
  rw [add_mk, hb.cell, Nat.zero_add, u8s_get hj]

theorem map_range_set {α : Type} (f : Nat → α) (n i : Nat) (y : α) : ((List.range n).map f).set i y = (List.range n).map fun j => if j = i then y else f j := by
  apply List.ext_getElem?
  intro k
  rw [List.getElem?_set]
  by_cases hk : k < n
  · by_cases hi : i = k
    · subst hi; simp [hk]
    · have : ¬ k = i := fun h => hi h.symm
      simp [hi, hk, this]
  · simp [hk]; omega

/-- What a tree with another post says. -/
theorem t_call {f : FuncId} {as : Array Value} {k : Rk} {c : k.D → Tr} {S : Ending → World → Prop} (h : Calls P f as w S) (hs : ∀ e w', S e w' → ∃ x, e = .returned (k.v x) ∧ (c x).wp P R Ks w') : (Tr.call f as k c).wp P R Ks w :=
  by simp only [Tr.wp]; exact h.mono fun e w' he => by obtain ⟨x, rfl, hx⟩ := hs e w' he; exact ⟨x, rfl, hx⟩
theorem t_calln {f : FuncId} {as : Array Value} {k : Rk} {c : k.D → Tr} {S : Ending → World → Prop} (h : Calls P f as w S) (hs : ∀ e w', S e w' → ∃ x, e = .returned (k.v x) ∧ (c x).wp P R Ks w') : (Tr.calln f as k c).wp P R Ks w :=
  by simp only [Tr.wp]; exact h.mono fun e w' he => by obtain ⟨x, rfl, hx⟩ := hs e w' he; exact ⟨x, rfl, hx⟩
theorem t_sem {s : Sem Value} {k : Rk} {c : k.D → Tr} {w' : World} (x : k.D) (h : s.run P w = .ok (k.v x) w') (hx : (c x).wp P R Ks w') : (Tr.sem s k c).wp P R Ks w := ⟨x, w', h, hx⟩
theorem t_bind {l : Nat} {ks : List Kd} {m : Tr} {k : DT ks → Tr} (h : m.wp P R (Ks.set l fun vs w' => ∃ s, vs = vT ks s ∧ (k s).wp P R Ks w') w) : (Tr.bind l ks m k).wp P R Ks w := h
theorem t_jmp {l : Nat} {J : Cont} {vs : List Value} (h : J vs w) : (Tr.jmp l vs).wp P R (Ks.set l J) w := by
  simp only [Tr.wp, Conts.set, Nat.beq_refl]; exact h
theorem t_need {p : Prop} {t : Tr} (hp : p) (h : t.wp P R Ks w) : (Tr.need p t).wp P R Ks w := ⟨hp, h⟩
theorem t_cond {b : Bool} {t e : Tr} (ht : b = true → t.wp P R Ks w) (he : b = false → e.wp P R Ks w) : (Tr.cond b t e).wp P R Ks w := cond_wp.2 ⟨ht, he⟩
theorem t_true {b : Bool} {t e : Tr} (hb : b = true) (ht : t.wp P R Ks w) : (Tr.cond b t e).wp P R Ks w := by subst hb; exact ht
theorem t_false {b : Bool} {t e : Tr} (hb : b = false) (ht : e.wp P R Ks w) : (Tr.cond b t e).wp P R Ks w := by subst hb; exact ht
theorem t_nil {a : Addr} {c : Addr → Tr} (h : (c a).wp P R Ks w) : (Tr.nil (some a) c).wp P R Ks w := h
theorem t_new {T : TypeId} {vs : List Value} {c : Addr → Tr} (hv : ∀ v ∈ vs, v.oneCell' = true) (h : ∀ w', Blk w' w.heap.size vs T → Keep [] w w' → w'.heap.size = w.heap.size + 1 → (c ⟨w.heap.size, 0, none⟩).wp P R Ks w') : (Tr.new T vs c).wp P R Ks w :=
  ⟨hv, h _ (Blk.new w vs T) ((Keep.refl _ _).alloc _) (by simp)⟩
/-- A store that leaves a world of which only this is known. -/
theorem t_sto {b o : Nat} {v : Value} {c : Tr} {cs : List Value} {T : TypeId} (hb : Blk w b cs T) (ho : o < cs.length) (hv : v.oneCell' = true) (h : ∀ w', Blk w' b (cs.set o v) T → Keep [b] w w' → c.wp P R Ks w') :
    (Tr.st ⟨b, o, none⟩ [v] c).wp P R Ks w :=
  t_st hb ho hv (h _ (hb.set o v) ((Keep.refl _ _).setCell (.inl (by simp))))
theorem t_stL {b o : Nat} {vs : List Value} {c : Tr} {cs : List Value} {T : TypeId} (hb : Blk w b cs T) (ho : o + vs.length ≤ cs.length) (hv : ∀ v ∈ vs, v.oneCell' = true) (h : ∀ w', Blk w' b (setL cs o vs) T → Keep [b] w w' → c.wp P R Ks w') :
    (Tr.st ⟨b, o, none⟩ vs c).wp P R Ks w :=
  stW_blk (F := [b]) (w0 := w) (.inl (by simp)) vs o 0 cs w _ hb (by simpa using ho) hv (Keep.refl _ _) fun w' h1 h2 _ _ => h w' (by simpa using h1) h2
theorem t_tick {c : Tr} (h : ∀ w', Keep [] w w' → w'.heap = w.heap → c.wp P R Ks w') : (Tr.tick c).wp P R Ks w := h _ (Keep.refl _ _).drew rfl
theorem t_loop {l : Nat} {ks : List Kd} {s : DT ks} {b : DT ks → Tr} (I : Nat → DT ks → World → Prop) (n : Nat) (h0 : I n s w)
    (h : ∀ n s w, I n s w → ∀ Ks' : Conts, (∀ n' s' w', n' < n → I n' s' w' → Ks' l (vT ks s') w') → (∀ i, i ≠ l → Ks' i = Ks i) → (b s).wp P R Ks' w) : (Tr.loop l ks s b).wp P R Ks w :=
  ⟨I, n, h0, fun n s w hI => h n s w hI _ (fun n' s' w' hn hI' => by simp only [Conts.set, Nat.beq_refl]; exact ⟨n', s', hn, rfl, hI'⟩) (fun i hi => by
    unfold Conts.set
    cases hb : Nat.beq i l with
    | true => exact absurd (Nat.eq_of_beq_eq_true hb) hi
    | false => rfl)⟩
theorem t_next {l : Nat} {vs : List Value} (h : Ks l vs w) : (Tr.jmp l vs).wp P R Ks w := h

end
end Go.Proofs.YthfcneahnldgnaaGreat.Vk
