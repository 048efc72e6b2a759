/- Vk, part 3: an operation's tree speaks of what the model does at that operation. -/
import Derived.Test.YthfcneahnldgnaaGreatVkSx
namespace Go.Proofs.YthfcneahnldgnaaGreat.Vk
open Go
variable {D : List Deferred}
set_option linter.unusedSimpArgs false
set_option linter.unusedVariables false

structure Agree (D : List Deferred) (n : Nat) (e : Env) (a : Act) : Prop where
  size : a.tmps.size = n
  defers : a.defers = D
  get : ∀ i v, e i = some v → a.tmps[i]? = some v

theorem Agree.ev {n : Nat} {e : Env} {a : Act} (h : Agree D n e a) {x : Operand} {v : Value} (hx : e.ev x = some v) : a.eval x = v := by
  cases x with
  | tmp t => simp only [Env.ev] at hx; have := h.get t v hx; simp [Act.eval, this]
  | const c => simp only [Env.ev, Option.some.injEq] at hx; simp [Act.eval, hx]
  | global g => simp only [Env.ev, Option.some.injEq] at hx; simp [Act.eval, hx]
  | func f => simp only [Env.ev, Option.some.injEq] at hx; simp [Act.eval, hx]

theorem optL_spec {α β : Type} {g : α → Option β} : ∀ {l : List α} {ys : List β}, optL g l = some ys → l.map g = ys.map some
  | [], ys, h => by simp [optL] at h; subst h; rfl
  | x :: r, ys, h => by
    simp only [optL] at h
    split at h
    · rename_i y hy
      split at h
      · rename_i zs hz
        simp only [Option.some.injEq] at h
        subst h
        simp [hy, optL_spec hz]
      · cases h
    · cases h

theorem optL_map {α β : Type} {g : α → Option β} {f : α → β} (hf : ∀ x y, g x = some y → f x = y) : ∀ {l : List α} {ys : List β}, optL g l = some ys → l.map f = ys
  | [], ys, h => by simp [optL] at h; subst h; rfl
  | x :: r, ys, h => by
    simp only [optL] at h
    split at h
    · rename_i y hy
      split at h
      · rename_i zs hz
        simp only [Option.some.injEq] at h
        subst h
        simp [hf _ _ hy, optL_map hf hz]
      · cases h
    · cases h

theorem Agree.evLA {n : Nat} {e : Env} {a : Act} (h : Agree D n e a) {l : Array Operand} {vs : List Value} (hl : Vk.evL e.ev l.toList = some vs) : l.map a.eval = vs.toArray := by
  have := optL_map (f := a.eval) (fun x y hx => h.ev hx) hl
  apply Array.ext'
  simpa using this

theorem Agree.evParts {n : Nat} {e : Env} {a : Act} (h : Agree D n e a) {l : List (Nat × Operand)} {vs : List (Nat × Value)} (hl : Vk.evParts e.ev l = some vs) : l.map (fun x => (x.1, a.eval x.2)) = vs :=
  optL_map (f := fun x => (x.1, a.eval x.2)) (fun x y hx => by
    simp only [Option.map_eq_some_iff] at hx
    obtain ⟨v, hv, rfl⟩ := hx
    simp [h.ev hv]) hl

theorem Agree.opt1 {n : Nat} {e : Env} {a : Act} (h : Agree D n e a) {x : Option Operand} {v : Option Value} (hx : Vk.opt1 e.ev x = some v) : x.map a.eval = v := by
  cases x with
  | none => simp [Vk.opt1] at hx; simp [hx]
  | some x =>
    simp only [Vk.opt1] at hx
    split at hx
    · rename_i u hu; simp only [Option.some.injEq] at hx; simp [h.ev hu, hx]
    · cases hx

theorem add0 (p : Addr) : p.add 0 = p := by simp [Addr.add]

theorem vL_length : ∀ (l : List Sc) (x : DL l), (vL l x).length = l.length
  | [], _ => rfl
  | _ :: r, x => by simp [vL, vL_length r x.2]

theorem hasL_get {w : World} {p : Addr} : ∀ {i : Nat} {vs : List Value}, hasL w p i vs → ∀ j v, vs[j]? = some v → w.cell? (p.add (i + j)) = some v
  | _, [], _, j, v, h => by simp at h
  | i, u :: r, hl, 0, v, h => by
    simp only [hasL] at hl; simp at h; subst h; simpa using hl.1
  | i, u :: r, hl, j + 1, v, h => by
    simp only [hasL] at hl
    have := hasL_get hl.2 j v (by simpa using h)
    rw [show i + (j + 1) = i + 1 + j by omega]; exact this

section
variable {P : Program}

theorem run_load1 {w : World} {p : Addr} {v : Value} (h : w.cell? p = some v) : (load p).run P w = .ok v w := by
  simp [load, Sem.run, h]

theorem underlying_of_kd {t : TypeId} {k : Kd} (hk : kdOf P t = some k) : ∃ d, P.underlying t = some d := by
  unfold kdOf scOf at hk
  cases h : P.underlying t with
  | none => simp [h] at hk
  | some d => exact ⟨d, rfl⟩

theorem isAgg_sc {t : TypeId} {s : Sc} (hk : kdOf P t = some (.sc s)) (w : World) : (isAgg t).run P w = .ok false w := by
  obtain ⟨d, hd⟩ := underlying_of_kd hk
  simp only [isAgg, Sem.run_bind, run_underlying hd, Result.andThen_ok]
  cases d <;> first
    | rfl
    | (simp [kdOf, hd] at hk)

theorem isAgg_agg {t : TypeId} {l : List Sc} (hk : kdOf P t = some (.agg l)) (w : World) : (isAgg t).run P w = .ok true w := by
  obtain ⟨d, hd⟩ := underlying_of_kd hk
  simp only [isAgg, Sem.run_bind, run_underlying hd, Result.andThen_ok]
  cases d <;> first
    | rfl
    | (simp [kdOf, scOf, hd] at hk)

theorem run_sizeP {t : TypeId} {n : Nat} (h : sizeP P t = some n) (w : World) : (sizeOf t).run P w = .ok n w := by
  unfold sizeP at h
  cases hi : P.info? t with
  | none => simp [hi] at h
  | some i => simp [hi] at h; subst h; simp [sizeOf, typeInfo, hi]

theorem run_zeroP {t : TypeId} {z : Value} (h : zeroP P t = some z) (w : World) : (zeroValue t).run P w = .ok z w := by
  unfold zeroP at h
  cases hi : P.info? t with
  | none => simp [hi] at h
  | some i => simp [hi] at h; simp [zeroValue, typeInfo, hi, h]

theorem run_loadVar_kd {t : TypeId} {k : Kd} (hk : kdOf P t = some k) (hf : fitsK P t k = true) {w : World} {p : Addr} {x : k.D} (h : hasL w p 0 (k.cells x)) :
    (loadVar t p).run P w = .ok (k.v x) w := by
  cases k with
  | sc s =>
    simp only [loadVar, Sem.run_bind, isAgg_sc hk, Result.andThen_ok]
    simp only [Kd.cells, hasL, add0] at h
    simpa [Kd.v] using run_load1 (P := P) h.1
  | agg l =>
    simp only [loadVar, Sem.run_bind, isAgg_agg hk, Result.andThen_ok]
    simp only [fitsK] at hf
    split at hf
    · rename_i n hn
      have hn' : n = l.length := by simpa using hf
      have hc := run_loadCells_list (P := P) w p (vL l x) (fun j v hj => by have := hasL_get h j v hj; simpa using this)
      rw [vL_length, ← hn'] at hc
      simp [run_sizeP hn, hc, Kd.v]
    · cases hf

theorem run_storeCells_stW : ∀ (vs : List Value) (i : Nat) (w : World) (p : Addr) (K : World → Prop), stW w p i vs K → ∃ w', (storeCells p vs i).run P w = .ok () w' ∧ K w'
  | [], i, w, p, K, h => ⟨w, rfl, h⟩
  | v :: r, i, w, p, K, h => by
    simp only [stW] at h
    obtain ⟨h1, ⟨u, hu⟩, h2, h3⟩ := h
    obtain ⟨w', hr, hK⟩ := run_storeCells_stW r (i + 1) _ p K h3
    refine ⟨w', ?_, hK⟩
    simp only [storeCells, Sem.run_bind, run_store P w (p.add i) v .plain h1, hu, h2]
    simpa using hr

theorem run_storeVar_stW {t : TypeId} {v : Value} {vs : List Value} {n : Nat} (hn : sizeP P t = some n) (hv : v.cells.toList = vs) (hl : vs.length = n) {w : World} {p : Addr} {K : World → Prop} (h : stW w p 0 vs K) :
    ∃ w', (storeVar t p v).run P w = .ok () w' ∧ K w' := by
  obtain ⟨w', hr, hK⟩ := run_storeCells_stW (P := P) vs 0 w p K h
  refine ⟨w', ?_, hK⟩
  have hs : v.cells.size = n := by rw [← hl, ← hv]; simp
  simp [storeVar, run_sizeP hn, hs, hv, hr]

theorem cells_oneCell {v : Value} (h : v.oneCell' = true) : v.cells = #[v] := by
  cases v <;> first | rfl | (simp [Value.oneCell'] at h)

/-! ### An operation -/
section
variable {C : FuncId → Bool} {R : Ending → World → Prop} {Q : Exit → Act → World → Prop} {n : Nat} {e : Env} {a : Act} {w : World} {Ks : Conts} {np : Bool} {o : Oper} {K : Option Value → Tr} {next : Act → World → Prop}

theorem wp_val {v : Value} {w' : World} (hr : (execOp a.eval o).run P w = .ok (.value v) w') (h : next (a.put o.dst v) w') : o.wp P a w next Q := by
  unfold Oper.wp; rw [hr]; exact h
theorem wp_skp {w' : World} (hr : (execOp a.eval o).run P w = .ok .skip w') (h : next (a.put o.dst undef) w') : o.wp P a w next Q := by
  unfold Oper.wp; rw [hr]; exact h
theorem wp_pan {v : Value} {w' : World} (hr : (execOp a.eval o).run P w = .halt (.panic v) w') (h : Q (.panic [{ v, recovered := false }]) a w') : o.wp P a w next Q := by
  unfold Oper.wp; rw [hr]; exact h
theorem wp_ent {f : FuncId} {args : Array Value} {w' : World} (hr : (execOp a.eval o).run P w = .ok (.enter f args) w')
    (h : Calls P f args w' fun e w'' => match e with | .returned v => next (a.put o.dst v) w'' | .panicked ch => Q (.panic ch) a w'' | .outgrown => LetsOut Q) : o.wp P a w next Q := by
  unfold Oper.wp; rw [hr]; exact h.mono fun e w'' h => by cases e <;> exact h

/-- What a run of a computation that yields one value makes of the operation. -/
theorem run_v {s : Sem Value} {v : Value} {w' : World} (h : s.run P w = .ok v w') : (do pure (Next.value (← s)) : Sem Next).run P w = .ok (.value v) w' := by
  simp [h]
theorem run_u {s : Sem Unit} {w' : World} (h : s.run P w = .ok () w') : (do s; pure Next.skip : Sem Next).run P w = .ok .skip w' := by
  simp [h]

theorem cond_wp {b : Bool} {t u : Tr} : (Tr.cond b t u).wp P R Ks w ↔ (b = true → t.wp P R Ks w) ∧ (b = false → u.wp P R Ks w) := by
  cases b <;> simp [Tr.cond]
theorem nil_wp {p : Option Addr} {c : Addr → Tr} : (Tr.nil p c).wp P R Ks w ↔ ∃ a, p = some a ∧ (c a).wp P R Ks w := by
  cases p <;> simp [Tr.nil, Tr.wp]

theorem semT_sound {t : TypeId} {s : Sem Value} (h : (semT P t s K).wp P R Ks w) : ∃ v w', s.run P w = .ok v w' ∧ (K (some v)).wp P R Ks w' := by
  unfold semT at h
  split at h
  · obtain ⟨x, w', hr, hk⟩ := h; exact ⟨_, w', hr, hk⟩
  · exact h.elim

theorem int_beq (x y : Int) : (x == y) = decide (x = y) := by by_cases h : x = y <;> simp [h]

theorem intT_sound {op : BinOp} {k : IntKind} {x y : Int} (hs : op ≠ .shl) (hs' : op ≠ .shr) (h : (intT op k x y K).wp P R Ks w) (t : TypeId) :
    ∃ v, (binOp op t (.int k x) (.int k y)).run P w = .ok v w ∧ (K (some v)).wp P R Ks w := by
  cases op <;> simp only [intT, Tr.wp, ne_eq] at h <;>
    first
    | exact h.elim
    | (exact absurd rfl hs)
    | (exact absurd rfl hs')
    | (refine ⟨_, ?_, h⟩; simp [binOp, Op.intArith, Op.intBits, Op.intCmp, band, bor, bxor, bandn, bne]; done)
    | (refine ⟨_, ?_, h⟩; simp [binOp, Op.intCmp, bne]; exact int_beq x y)
    | (refine ⟨_, ?_, h.2⟩; simp [binOp, Op.intDiv, h.1])

theorem toList_eq_iff (x y : ByteArray) : (x.toList == y.toList) = decide (x = y) := by
  by_cases h : x = y
  · subst h; simp
  · have : x.toList ≠ y.toList := fun he => h (by
      rw [ByteArray.toList_eq, ByteArray.toList_eq] at he
      exact ByteArray.ext (Array.ext' he))
    simp [h, this]

theorem strT_sound {op : BinOp} {x y : ByteArray} (h : (strT op x y K).wp P R Ks w) (t : TypeId) :
    ∃ v, (binOp op t (.string x) (.string y)).run P w = .ok v w ∧ (K (some v)).wp P R Ks w := by
  cases op <;> simp only [strT, Tr.wp] at h <;>
    first
    | exact h.elim
    | (refine ⟨_, ?_, h⟩; simp [binOp, Op.stringOp, toList_eq_iff, strLt]; done)
    | (refine ⟨_, ?_, h.2⟩; simp only [binOp, Op.stringOp]; rw [if_neg (by have := h.1; rw [show IntKind.i64.max = 9223372036854775807 by decide]; omega)]; rfl)

theorem isPtr_spec {t : TypeId} (h : isPtr P t = true) : ∃ x, P.underlying t = some (.pointer x) := by
  unfold isPtr at h; split at h
  · exact ⟨_, by assumption⟩
  · cases h
theorem isSlc_spec {t : TypeId} (h : isSlc P t = true) : ∃ x, P.underlying t = some (.slice x) := by
  unfold isSlc at h; split at h
  · exact ⟨_, by assumption⟩
  · cases h

theorem isBool_spec {t : TypeId} (h : isBool P t = true) : P.underlying t = some .bool := by
  unfold isBool at h; split at h
  · assumption
  · cases h
theorem run_eqIn_bool (w : World) (d : Nat) (t : TypeId) (p q : Bool) (h : P.underlying t = some .bool) : (Op.equalIn (d + 1) t (.bool p) (.bool q)).run P w = .ok (p == q) w := by
  simp [Op.equalIn, run_underlying h]

theorem run_eqIn_slice_nil (w : World) (d : Nat) (t e : TypeId) (a : Option Addr) (l c : Nat) (h : P.underlying t = some (.slice e)) : (Op.equalIn (d + 1) t (.slice a l c) (.slice none 0 0)).run P w = .ok a.isNone w := by
  cases a <;> simp [Op.equalIn, run_underlying h]

theorem nilT_sound {op : BinOp} {t : TypeId} {x y : Operand} {va vb : Value} {b : Bool} (hi : ∀ k n, va ≠ .int k n) (hs : ∀ s, va ≠ .string s)
    (hg : ∀ op, (eqGuard op t x y va vb).run P w = .ok () w) (hq : (Op.equal t va vb).run P w = .ok b w)
    (hb : ∀ op, op = .eql ∨ op = .neq → binOp op t va vb = match op with | .eql => (do pure (.bool (← Op.equal t va vb))) | _ => (do pure (.bool (!(← Op.equal t va vb)))))
    (h : (nilT op b K).wp P R Ks w) :
    ∃ v w', (do eqGuard op t x y va vb; binOp op t va vb : Sem Value).run P w = .ok v w' ∧ (K (some v)).wp P R Ks w' := by
  unfold nilT at h
  split at h
  · refine ⟨_, w, ?_, h⟩
    simp [hg, hb .eql (.inl rfl), hq]
  · refine ⟨_, w, ?_, h⟩
    simp [hg, hb .neq (.inr rfl), hq]
  · exact h.elim

theorem eqT_sound {op : BinOp} {t : TypeId} {x y : Operand} {va vb : Value} (h : (eqT P op t x y va vb K).wp P R Ks w) :
    ∃ v w', (do eqGuard op t x y va vb; binOp op t va vb : Sem Value).run P w = .ok v w' ∧ (K (some v)).wp P R Ks w' := by
  unfold eqT at h
  split at h
  · rename_i p q
    split at h
    · rename_i hp
      have hu := isBool_spec hp
      refine nilT_sound (fun _ _ h => by cases h) (fun _ h => by cases h) (fun op => by unfold eqGuard; split <;> rfl) ?_ ?_ h
      · exact run_eqIn_bool w 9999 t p q hu
      · rintro op (rfl | rfl) <;> rfl
    · exact h.elim
  · rename_i p
    split at h
    · rename_i hp
      obtain ⟨u, hu⟩ := isPtr_spec hp
      refine nilT_sound (fun _ _ h => by cases h) (fun _ h => by cases h) (fun op => by unfold eqGuard; split <;> rfl) ?_ ?_ h
      · exact run_equal_pointer_nil w t p (by simp [Program.pointee, hu])
      · rintro op (rfl | rfl) <;> rfl
    · exact h.elim
  · rename_i p l c
    split at h
    · rename_i hp
      obtain ⟨u, hu⟩ := isSlc_spec hp
      refine nilT_sound (fun _ _ h => by cases h) (fun _ h => by cases h) (fun op => by unfold eqGuard; split <;> rfl) ?_ ?_ h
      · exact run_eqIn_slice_nil w 9999 t u p l c hu
      · rintro op (rfl | rfl) <;> rfl
    · exact h.elim
  · obtain ⟨r, w', hr, hk⟩ := h
    exact ⟨_, w', hr, hk⟩

theorem binT_sound {op : BinOp} {t : TypeId} {x y : Operand} {va vb : Value} (h : (binT P op t x y va vb K).wp P R Ks w) :
    ∃ v w', (do eqGuard op t x y va vb; binOp op t va vb : Sem Value).run P w = .ok v w' ∧ (K (some v)).wp P R Ks w' := by
  cases va with
  | int k m =>
    cases vb with
    | int k' j =>
      have hg : (eqGuard op t x y (.int k m) (.int k' j)).run P w = .ok () w := by unfold eqGuard; split <;> rfl
      simp only [Sem.run_bind, hg, Result.andThen_ok]
      simp only [binT] at h
      split at h
      · simp only [Tr.wp] at h
        refine ⟨_, w, ?_, h.2⟩
        simp [binOp, Op.shift, Int.not_lt.2 h.1, bshl]
      · simp only [Tr.wp] at h
        refine ⟨_, w, ?_, h.2⟩
        simp [binOp, Op.shift, Int.not_lt.2 h.1, bshr]
      · rename_i h1 h2
        split at h
        · rename_i hk
          have hk' : k = k' := by simpa using hk
          subst hk'
          obtain ⟨v, hr, hk⟩ := intT_sound h1 h2 h t
          exact ⟨v, w, hr, hk⟩
        · exact h.elim
    | _ => exact h.elim
  | string s =>
    cases vb with
    | string u =>
      have hg : (eqGuard op t x y (.string s) (.string u)).run P w = .ok () w := by unfold eqGuard; split <;> rfl
      simp only [Sem.run_bind, hg, Result.andThen_ok]
      obtain ⟨v, hr, hk⟩ := strT_sound h t
      exact ⟨v, w, hr, hk⟩
    | _ => exact h.elim
  | _ => exact eqT_sound h

/-! ### The pieces of the greater operations -/
theorem run_mapM_list {α β : Type} (f : α → Sem β) (g : α → Option β) (w : World) (h : ∀ x y, g x = some y → (f x).run P w = .ok y w) :
    ∀ (l : List α) (ys : List β), optL g l = some ys → (l.mapM f).run P w = .ok ys w
  | [], ys, hy => by simp [optL] at hy; subst hy; rfl
  | x :: l, ys, hy => by
    simp only [optL] at hy
    split at hy
    · rename_i y hx
      split at hy
      · rename_i r hr
        simp only [Option.some.injEq] at hy
        subst hy
        simp [List.mapM_cons, h x y hx, run_mapM_list f g w h l r hr]
      · cases hy
    · cases hy

theorem run_mapM_arr {α β : Type} (f : α → Sem β) (g : α → Option β) (w : World) (h : ∀ x y, g x = some y → (f x).run P w = .ok y w) (l : Array α) (ys : List β)
    (hy : optL g l.toList = some ys) : (l.mapM f).run P w = .ok ys.toArray w := by
  have := run_mapM_list (P := P) f g w h l.toList ys hy
  rw [Array.mapM_eq_mapM_toList]
  simp [this]

theorem fillP_sound {t : TypeId} {parts : List (Nat × Value)} {cs : List Value} (h : fillP P t parts = some cs) (w : World) :
    (Instr.build t parts.toArray).run P w = .ok (.agg cs.toArray) w := by
  unfold fillP at h
  split at h
  · rename_i z fs hz hu
    split at h
    · rename_i places hp
      simp only [Option.map_eq_some_iff] at h
      obtain ⟨arr, hf, rfl⟩ := h
      have hm := run_mapM_arr (P := P) (fun f : Field => (do pure (f.offset, ← sizeOf f.type) : Sem (Nat × Nat))) (fun f => (sizeP P f.type).map (fun n => (f.offset, n))) w
        (fun f y hy => by
          simp only [Option.map_eq_some_iff] at hy
          obtain ⟨n, hn, rfl⟩ := hy
          simp [run_sizeP hn]) fs places hp
      simp only [Instr.build, Sem.run_bind, run_zeroP hz, Result.andThen_ok, run_underlying hu]
      rw [hm, Result.andThen_ok]
      have hf' : Instr.fill (fun x => places.toArray[x]?) z.cells parts.toArray.toList = some arr := by simpa using hf
      rw [hf']
      simp
    · cases h
  · rename_i z k e hz hu
    split at h
    · rename_i size hs
      simp only [Option.map_eq_some_iff] at h
      obtain ⟨arr, hf, rfl⟩ := h
      simp only [Instr.build, Sem.run_bind, run_zeroP hz, Result.andThen_ok, run_underlying hu, run_sizeP hs]
      have hf' : Instr.fill (fun i => some (i * size, size)) z.cells parts.toArray.toList = some arr := by simpa using hf
      rw [hf']
      simp
    · cases h
  · cases h

theorem minG_sound (k : IntKind) : ∀ (l : List Value) (x : Int) (v : Value), minG k x l = some v → (l.foldlM Builtin.min2 (.int k x)).run P w = .ok v w
  | [], x, v, h => by simp [minG] at h; subst h; rfl
  | y :: r, x, v, h => by
    cases y <;> simp only [minG] at h <;> first | cases h | skip
    simp only [List.foldlM_cons, Builtin.min2, Sem.run_bind, Sem.run_pure, Result.andThen_ok]
    exact minG_sound k r _ v h
theorem maxG_sound (k : IntKind) : ∀ (l : List Value) (x : Int) (v : Value), maxG k x l = some v → (l.foldlM Builtin.max2 (.int k x)).run P w = .ok v w
  | [], x, v, h => by simp [maxG] at h; subst h; rfl
  | y :: r, x, v, h => by
    cases y <;> simp only [maxG] at h <;> first | cases h | skip
    simp only [List.foldlM_cons, Builtin.max2, Sem.run_bind, Sem.run_pure, Result.andThen_ok]
    exact maxG_sound k r _ v h

theorem run_sliceBound_ok (k : IntKind) (i : Int) (y : Nat) (code : BoundsCode) (h0 : 0 ≤ i) (h1 : i ≤ (y : Int)) : (Instr.sliceBound (.int k i) y code).run P w = .ok i.toNat w := by
  simp [Instr.sliceBound, asIntOf, h0, h1]

theorem bndT_sound {lo hi : Option Value} {len cap : Nat} {c : Nat → Nat → Tr} (isS : Bool) (h : (bndT lo hi len cap c).wp P R Ks w) :
    ∃ l r, (Instr.sliceBounds isS len cap lo hi none).run P w = .ok (l, r, cap) w ∧ (c l r).wp P R Ks w := by
  unfold bndT at h
  split at h
  · split at h
    · exact ⟨_, _, by simp [Instr.sliceBounds], h⟩
    · simp only [Tr.wp] at h
      refine ⟨_, _, ?_, h.2⟩
      simp [Instr.sliceBounds, run_sliceBound_ok _ _ _ _ h.1.1 h.1.2]
    · exact h.elim
  · split at h
    · simp only [Tr.wp] at h
      refine ⟨_, _, ?_, h.2⟩
      simp [Instr.sliceBounds, run_sliceBound_ok _ _ _ _ h.1.1 h.1.2]
    · simp only [Tr.wp] at h
      obtain ⟨⟨h1, h2, h3, h4⟩, h⟩ := h
      refine ⟨_, _, ?_, h⟩
      simp [Instr.sliceBounds, run_sliceBound_ok _ _ _ _ h1 h2, run_sliceBound_ok _ _ _ _ h3 (show _ ≤ ((_ : Int).toNat : Int) by rw [Int.toNat_of_nonneg h1]; exact h4)]
    · exact h.elim
  · exact h.elim

theorem zeroRow_get (z : List Value) (m : Nat) (hz : z.length = m) : ∀ (n i : Nat), i < n * m → (zeroRow z n)[i]? = z[i % m]?
  | 0, i, h => by simp at h
  | n + 1, i, h => by
    have hm : 0 < m := by rcases Nat.eq_zero_or_pos m with h0 | h0; · subst h0; simp at h
                          · exact h0
    simp only [zeroRow]
    by_cases hi : i < m
    · rw [List.getElem?_append_left (by omega), Nat.mod_eq_of_lt hi]
    · have hs : (n + 1) * m = n * m + m := by rw [Nat.add_mul, Nat.one_mul]
      have hq := Nat.mod_eq_sub_mod (a := i) (b := m) (by omega)
      rw [List.getElem?_append_right (by omega), hz, zeroRow_get z m hz n (i - m) (by omega), hq]

theorem zeroRow_length (z : List Value) : ∀ n, (zeroRow z n).length = n * z.length
  | 0 => by simp [zeroRow]
  | n + 1 => by simp [zeroRow, zeroRow_length z n, Nat.add_mul]; omega

theorem zeroRow_eq (z : Array Value) (n : Nat) : (Array.range (n * z.size)).map (z[· % z.size]!) = (zeroRow z.toList n).toArray := by
  apply Array.ext'
  simp only [Array.toList_map, Array.toList_range]
  apply List.ext_getElem?
  intro i
  by_cases hi : i < n * z.size
  · rw [zeroRow_get z.toList z.size (by simp) n i hi]
    have hm : 0 < z.size := by rcases Nat.eq_zero_or_pos z.size with h0 | h0; · simp [h0] at hi
                               · exact h0
    have hlt := Nat.mod_lt i hm
    simp [hi, hlt]
  · have h1 := zeroRow_length z.toList n
    rw [List.getElem?_eq_none (by simp; omega), List.getElem?_eq_none (by simp at h1; omega)]

theorem lenOk_str {ts : Array TypeId} (h : strAt P ts = true) : ∃ t, ts[0]? = some t ∧ P.underlying t = some .string := by
  unfold strAt at h
  split at h
  · rename_i t ht
    split at h
    · exact ⟨t, by simpa using ht, by assumption⟩
    · cases h
  · cases h
theorem lenOk_slc {ts : Array TypeId} (h : slcAt P ts = true) : ∃ t e, ts[0]? = some t ∧ P.underlying t = some (.slice e) := by
  unfold slcAt at h
  split at h
  · rename_i t ht
    split at h
    · exact ⟨t, _, by simpa using ht, by assumption⟩
    · cases h
  · cases h

theorem bltT_sound {b : Builtin} {ts : Array TypeId} {t : TypeId} {args : List Value} {cs : Array Bool} (h : (bltT P b ts t args K).wp P R Ks w) :
    ∃ v w', (builtin b ts t cs args.toArray).run P w = .ok (.value v) w' ∧ (K (some v)).wp P R Ks w' := by
  unfold bltT at h
  split at h
  · split at h
    · split at h
      · split at h
        · rename_i s hl
          refine ⟨_, w, run_v ?_, h⟩
          obtain ⟨t0, h0, hu⟩ := lenOk_str hl
          simp [Builtin.len_, h0, run_underlying hu, goInt]
        · exact h.elim
      · split at h
        · rename_i p m c hl
          refine ⟨_, w, run_v ?_, h⟩
          obtain ⟨t0, e0, h0, hu⟩ := lenOk_slc hl
          simp [Builtin.len_, h0, run_underlying hu, goInt]
        · exact h.elim
      · obtain ⟨v, w', hr, hk⟩ := semT_sound h
        exact ⟨v, w', run_v hr, hk⟩
    · exact h.elim
  · split at h
    · split at h
      · split at h
        · rename_i p m c hl
          refine ⟨_, w, run_v ?_, h⟩
          obtain ⟨t0, e0, h0, hu⟩ := lenOk_slc hl
          simp [Builtin.cap_, h0, run_underlying hu, goInt]
        · exact h.elim
      · exact h.elim
    · exact h.elim
  · split at h
    · rename_i v hv
      refine ⟨v, w, ?_, h⟩
      unfold minT at hv
      split at hv
      · refine run_v ?_
        simp only [Builtin.min_]
        exact minG_sound _ _ _ _ hv
      · cases hv
    · exact h.elim
  · split at h
    · rename_i v hv
      refine ⟨v, w, ?_, h⟩
      unfold maxT at hv
      split at hv
      · refine run_v ?_
        simp only [Builtin.max_]
        exact maxG_sound _ _ _ _ hv
      · cases hv
    · exact h.elim
  · obtain ⟨v, w', hr, hk⟩ := semT_sound h
    exact ⟨v, w', run_v hr, hk⟩
  · obtain ⟨v, w', hr, hk⟩ := semT_sound h
    exact ⟨v, w', run_v hr, hk⟩
  · obtain ⟨x, w', hr, hk⟩ := h
    exact ⟨_, w', run_v hr, hk⟩
  · exact h.elim

theorem all_of_cells {cs : List Value} (h : ∀ v ∈ cs, v.oneCell' = true) : True := trivial

/-- The condition under which a function may be called by its number. -/
def Callable (P : Program) (C : FuncId → Bool) : Prop := ∀ f, C f = true → ∀ (args : Array Value) (w : World), (callFunc f args).run P w = .ok (.enter f args) w

theorem sxOp_sound (hC : Callable P C) (hag : Agree D n e a) (h : (sxOp P C np o e.ev K).wp P R Ks w)
    (hk : ∀ v w', (K (some v)).wp P R Ks w' → next (a.put o.dst v) w')
    (hs : ∀ w', (K none).wp P R Ks w' → next (a.put o.dst undef) w')
    (hp : ∀ ch w', R (.panicked ch) w' → Q (.panic ch) a w') : o.wp P a w next Q := by
  unfold sxOp at h
  split at h
  case h_1 x ho =>
    split at h
    · rename_i v hv
      exact wp_val (by simp [execOp, ho, hag.ev hv]) (hk _ _ h)
    · exact h.elim
  case h_2 x ho =>
    split at h
    · rename_i v hv
      exact wp_val (by simp [execOp, ho, hag.ev hv]) (hk _ _ h)
    · exact h.elim
  case h_3 c x y ho =>
    split at h
    · rename_i t hc
      rw [cond_wp] at h
      cases t with
      | true =>
        have h := h.1 rfl
        split at h
        · rename_i v hv
          exact wp_val (by simp [execOp, ho, hag.ev hc, hag.ev hv, asBool]) (hk _ _ h)
        · exact h.elim
      | false =>
        have h := h.2 rfl
        split at h
        · rename_i v hv
          exact wp_val (by simp [execOp, ho, hag.ev hc, hag.ev hv, asBool]) (hk _ _ h)
        · exact h.elim
    · exact h.elim
  case h_4 T ho =>
    split at h
    · rename_i z hz
      simp only [Tr.wp] at h
      refine wp_val (v := .pointer (some ⟨w.heap.size, 0, none⟩)) (w' := w.alloc (.cells z.cells T)) ?_ (hk _ _ (by simpa using h.2))
      simp only [execOp, ho]
      refine run_v ?_
      simp [Instr.alloc, run_zeroP hz, newVar, newRow]
    · exact h.elim
  case h_5 T x ho =>
    split at h
    · rename_i v s hv hkd
      simp only [Tr.wp] at h
      have h1 : v.cells = #[v] := cells_oneCell (h.1 v (by simp))
      refine wp_val (v := .pointer (some ⟨w.heap.size, 0, none⟩)) (w' := w.alloc (.cells #[v] T)) ?_ (hk _ _ h.2)
      simp only [execOp, ho, hag.ev hv]
      refine run_v ?_
      simp [Instr.box, newVar, newRow, h1]
    · rename_i cs l hv hkd
      simp only [Tr.wp] at h
      refine wp_val (v := .pointer (some ⟨w.heap.size, 0, none⟩)) (w' := w.alloc (.cells cs T)) ?_ (hk _ _ (by simpa using h.2))
      simp only [execOp, ho, hag.ev hv]
      refine run_v ?_
      simp [Instr.box, newVar, newRow, Value.cells]
    · exact h.elim
  case h_6 T ps ho =>
    split at h
    · rename_i parts hparts
      split at h
      · rename_i cs hcs
        refine wp_val ?_ (hk _ _ h)
        simp only [execOp, ho]
        refine run_v ?_
        have hm := hag.evParts hparts
        have : (ps.map fun x => (x.1, a.eval x.2)) = parts.toArray := by
          apply Array.ext'; simpa using hm
        rw [show (Array.map (fun x => match x with | (i, x) => (i, a.eval x)) ps) = parts.toArray from this]
        exact fillP_sound hcs w
      · exact h.elim
    · exact h.elim
  case h_7 T len ps ho =>
    split at h
    · rename_i parts e' hparts hu
      split at h
      · rename_i size z hsz hz
        split at h
        · rename_i h1
          split at h
          · rename_i h2
            split at h
            · rename_i cs hcs
              simp only [Tr.wp] at h
              have hsize : size = z.cells.size := by simpa using h2
              subst hsize
              have hm := hag.evParts hparts
              have hm' : (ps.map fun x => (x.1, a.eval x.2)) = parts.toArray := by
                apply Array.ext'; simpa using hm
              have hle : ¬ (len * z.cells.size > 2 ^ 24) := by have := Nat.le_of_ble_eq_true h1; omega
              refine wp_val (v := .slice (some ⟨w.heap.size, 0, none⟩) len len) (w' := w.alloc (.cells cs e')) ?_ (hk _ _ (by simpa using h.2))
              simp only [execOp, ho]
              refine run_v ?_
              rw [show (Array.map (fun x => match x with | (i, x) => (i, a.eval x)) ps) = parts.toArray from hm']
              simp only [Instr.buildSlice, Sem.run_bind, run_underlying hu, Result.andThen_ok, run_sizeP hsz]
              rw [if_neg hle]
              by_cases h0 : len * z.cells.size = 0
              · have hz0 : zeroRow z.cells.toList len = [] := List.eq_nil_of_length_eq_zero (by rw [zeroRow_length]; simpa using h0)
                rw [hz0] at hcs
                have hcs' : Instr.fill (fun i => some (i * z.cells.size, z.cells.size)) ((Array.range (len * z.cells.size)).map ((#[] : Array Value)[· % (#[] : Array Value).size]!)) parts.toArray.toList = some cs := by
                  rw [h0, show Array.range 0 = #[] from rfl]; simpa using hcs
                simp [h0, newRow]
                simp [h0] at hcs'
                simp [hcs']
              · have hcs' : Instr.fill (fun i => some (i * z.cells.size, z.cells.size)) ((Array.range (len * z.cells.size)).map (z.cells[· % z.cells.size]!)) parts.toArray.toList = some cs := by
                  rw [zeroRow_eq]; exact hcs
                simp only [if_neg h0, Sem.run_bind, run_zeroP hz, Result.andThen_ok, Sem.run_pure, hcs']
                simp [newRow]
            · exact h.elim
          · exact h.elim
        · exact h.elim
      · exact h.elim
    · exact h.elim
  case h_8 t x ho =>
    split at h
    · rename_i p k hv hkd
      split at h
      · rename_i hf
        rw [nil_wp] at h
        obtain ⟨b, rfl, x', hl, h⟩ := h
        refine wp_val ?_ (hk _ _ h)
        simp only [execOp, ho, hag.ev hv]
        refine run_v ?_
        simp only [Instr.loadAt, Instr.sureAddr, Sem.run_bind, Sem.run_pure, Result.andThen_ok]
        exact run_loadVar_kd hkd hf hl
      · exact h.elim
    · exact h.elim
  case h_9 t x y ho =>
    split at h
    · rename_i p v s hx hy hkd
      split at h
      · rename_i hs1
        rw [nil_wp] at h
        obtain ⟨b, rfl, h⟩ := h
        have h1 : v.oneCell' = true := by simp only [Tr.wp, stW] at h; exact h.1
        obtain ⟨w', hr, hK⟩ := run_storeVar_stW (P := P) (v := v) hs1 (by rw [cells_oneCell h1]) (by simp) (show stW w b 0 [v] _ from h)
        refine wp_skp ?_ (hs _ hK)
        simp only [execOp, ho, hag.ev hx, hag.ev hy]
        refine run_u ?_
        simpa [Instr.storeAt, Instr.sureAddr] using hr
      · exact h.elim
    · rename_i p cs l hx hy hkd
      split at h
      · rename_i m hs1
        split at h
        · rename_i hm
          rw [nil_wp] at h
          obtain ⟨b, rfl, h⟩ := h
          obtain ⟨w', hr, hK⟩ := run_storeVar_stW (P := P) (v := .agg cs) hs1 (by simp [Value.cells]) (by simpa using hm) (show stW w b 0 cs.toList _ from h)
          refine wp_skp ?_ (hs _ hK)
          simp only [execOp, ho, hag.ev hx, hag.ev hy]
          refine run_u ?_
          simpa [Instr.storeAt, Instr.sureAddr] using hr
        · exact h.elim
      · exact h.elim
    · exact h.elim
  case h_10 x ho =>
    split at h
    · rename_i p hv
      rw [nil_wp] at h
      obtain ⟨b, rfl, h⟩ := h
      exact wp_val (by simp [execOp, ho, hag.ev hv]) (hk _ _ h)
    · exact h.elim
  case h_11 op t x y yt ho =>
    split at h
    · rename_i va vb hx hy
      obtain ⟨v, w', hr, h⟩ := binT_sound h
      refine wp_val ?_ (hk _ _ h)
      simp only [execOp, ho, hag.ev hx, hag.ev hy]
      exact run_v hr
    · exact h.elim
  case h_12 op t x ho =>
    split at h
    · rename_i b hv
      split at h
      · exact wp_val (by simp [execOp, ho, hag.ev hv, Op.unary]) (hk _ _ h)
      · exact h.elim
    · rename_i k m hv
      split at h
      · exact wp_val (by simp [execOp, ho, hag.ev hv, Op.unary, Op.intArith]) (hk _ _ h)
      · exact h.elim
    · exact h.elim
  case h_13 src dst x ho =>
    split at h
    · rename_i k m hv
      split at h
      · rename_i d k' hu hu'
        refine wp_val (w' := w) ?_ (hk _ _ h)
        simp only [execOp, ho, hag.ev hv]
        refine run_v ?_
        simp [convert, run_underlying hu, run_underlying hu', Conv.intToInt]
      · exact h.elim
    · rename_i v hne hv
      obtain ⟨v', w', hr, h⟩ := semT_sound h
      refine wp_val ?_ (hk _ _ h)
      simp only [execOp, ho, hag.ev hv]
      exact run_v hr
    · exact h.elim
  case h_14 t x ho =>
    split at h
    · rename_i v hv hc
      refine wp_val (w' := w) ?_ (hk _ _ h)
      simp only [execOp, ho, hag.ev hv]
      refine run_v ?_
      unfold isConc at hc
      split at hc
      · cases hc
      · rename_i d hd hu
        simp only [Instr.makeInterface, Sem.run_bind, run_underlying hu, Result.andThen_ok]
        rfl
      · cases hc
    · exact h.elim
  case h_15 fn first caps ho =>
    split at h
    · rename_i f c hf hc
      refine wp_val (w' := w) ?_ (hk _ _ h)
      simp only [execOp, ho, hag.evLA hf, hag.evLA hc]
      exact run_v rfl
    · exact h.elim
  case h_16 t r ho =>
    split at h
    · obtain ⟨v', w', hr, h⟩ := semT_sound h
      refine wp_val ?_ (hk _ _ h)
      simp only [execOp, ho]
      exact run_v hr
    · exact h.elim
  case h_17 t l c ho =>
    split at h
    · rename_i va vb hx hy
      obtain ⟨v', w', hr, h⟩ := semT_sound h
      refine wp_val ?_ (hk _ _ h)
      simp only [execOp, ho, hag.ev hx, hag.ev hy]
      exact run_v hr
    · exact h.elim
  case h_18 t x lo hi mx ho =>
    split at h
    · rename_i s l r hx hl hr
      split at h
      · rename_i hu
        obtain ⟨i, j, hb, h⟩ := bndT_sound false h
        refine wp_val (w' := w) ?_ (hk _ _ h)
        simp only [execOp, ho, hag.ev hx, hag.opt1 hl, hag.opt1 hr]
        refine run_v ?_
        simp [Instr.sliceAt, Instr.slice, run_underlying hu, hb]
      · exact h.elim
    · rename_i b m c l r hx hl hr
      split at h
      · rename_i e' hu
        split at h
        · rename_i size hsz
          obtain ⟨i, j, hb, h⟩ := bndT_sound true h
          refine wp_val (w' := w) ?_ (hk _ _ h)
          simp only [execOp, ho, hag.ev hx, hag.opt1 hl, hag.opt1 hr]
          refine run_v ?_
          simp [Instr.sliceAt, Instr.slice, run_underlying hu, hb, run_sizeP hsz, slB]
        · exact h.elim
      · exact h.elim
    · exact h.elim
  case h_19 s x f ho =>
    split at h
    · rename_i p fs hx hu
      split at h
      · rename_i fd hfd
        split at h
        · rename_i m hsz
          rw [nil_wp] at h
          obtain ⟨b, rfl, h⟩ := h
          refine wp_val (w' := w) ?_ (hk _ _ h)
          simp only [execOp, ho, hag.ev hx]
          refine run_v ?_
          have hfd' : fs[f]? = some fd := by simpa using hfd
          simp [Instr.fieldAt, run_underlying hu, hfd', Instr.sureAddr, fieldPlace, run_sizeP hsz]
        · exact h.elim
      · exact h.elim
    · exact h.elim
  case h_20 t x f ho =>
    split at h
    · rename_i cs fs hx hu
      split at h
      · rename_i fd hfd
        have hfd' : fs[f]? = some fd := by simpa using hfd
        split at h
        · rename_i s hkd
          split at h
          · rename_i v hv
            refine wp_val (w' := w) ?_ (hk _ _ h)
            simp only [execOp, ho, hag.ev hx]
            refine run_v ?_
            have hv' : cs[fd.offset]? = some v := by simpa using hv
            simp [Instr.field, run_underlying hu, hfd', asAgg, part, isAgg_sc hkd, hv']
          · exact h.elim
        · rename_i l hkd
          split at h
          · rename_i m hsz
            refine wp_val (w' := w) ?_ (hk _ _ h)
            simp only [execOp, ho, hag.ev hx]
            refine run_v ?_
            have : cs.extract fd.offset (fd.offset + m) = ((cs.toList.drop fd.offset).take m).toArray := by
              apply Array.ext'
              simp [Array.toList_extract, List.extract]
            simp [Instr.field, run_underlying hu, hfd', asAgg, part, isAgg_agg hkd, run_sizeP hsz, this]
          · exact h.elim
        · exact h.elim
      · exact h.elim
    · exact h.elim
  case h_21 t x i ho =>
    split at h
    · rename_i b m c k j e' hx hi hu
      split at h
      · rename_i size hsz
        simp only [Tr.wp, nil_wp] at h
        obtain ⟨⟨h1, h2⟩, d, rfl, h⟩ := h
        refine wp_val (w' := w) ?_ (hk _ _ h)
        simp only [execOp, ho, hag.ev hx, hag.ev hi]
        refine run_v ?_
        simp [Instr.indexAt, asIntOf, run_underlying hu, run_sizeP hsz, h1, h2]
      · exact h.elim
    · rename_i p k j m e' hx hi hu
      split at h
      · rename_i size hsz
        rw [nil_wp] at h
        obtain ⟨d, rfl, ⟨h1, h2⟩, h⟩ := h
        refine wp_val (w' := w) ?_ (hk _ _ h)
        simp only [execOp, ho, hag.ev hx, hag.ev hi]
        refine run_v ?_
        simp [Instr.indexAt, asIntOf, run_underlying hu, run_sizeP hsz, h1, h2, Instr.sureAddr]
      · exact h.elim
    · exact h.elim
  case h_22 t x i ho =>
    split at h
    · rename_i s k j hx hi
      split at h
      · rename_i hu
        simp only [Tr.wp] at h
        obtain ⟨⟨h1, h2⟩, h⟩ := h
        refine wp_val (w' := w) ?_ (hk _ _ h)
        simp only [execOp, ho, hag.ev hx, hag.ev hi]
        refine run_v ?_
        have hlt : j.toNat < s.size := by omega
        have hb : bt s j = ((s[j.toNat]'hlt).toNat : Int) := by
          unfold bt
          have : s.data.getD j.toNat 0 = s[j.toNat]'hlt := by
            simp only [Array.getD, ByteArray.size_data, hlt, dif_pos]; rfl
          rw [this]
        simp [Instr.index, asIntOf, run_underlying hu, h1, hlt, hb]
      · exact h.elim
    · rename_i cs v hx hi
      obtain ⟨v', w', hr, h⟩ := semT_sound h
      refine wp_val ?_ (hk _ _ h)
      simp only [execOp, ho, hag.ev hx, hag.ev hi]
      exact run_v hr
    · exact h.elim
  case h_23 t x i ok ho =>
    split at h
    · rename_i va vb hx hy
      obtain ⟨v', w', hr, h⟩ := semT_sound h
      refine wp_val ?_ (hk _ _ h)
      simp only [execOp, ho, hag.ev hx, hag.ev hy]
      exact run_v hr
    · exact h.elim
  case h_24 t m k x ho =>
    split at h
    · rename_i va vb vc hx hy hz
      obtain ⟨w', hr, h⟩ := h
      refine wp_skp ?_ (hs _ h)
      simp only [execOp, ho, hag.ev hx, hag.ev hy, hag.ev hz]
      exact run_u hr
    · exact h.elim
  case h_25 x i ho =>
    split at h
    · rename_i vs hx
      split at h
      · rename_i v hv
        refine wp_val (w' := w) ?_ (hk _ _ h)
        simp only [execOp, ho, hag.ev hx]
        refine run_v ?_
        have hv' : vs[i]? = some v := by simpa using hv
        simp [Instr.extract, hv']
      · exact h.elim
    · exact h.elim
  case h_26 x ho =>
    split at h
    · rename_i t v hx
      refine wp_pan (w' := w) ?_ (hp _ _ h)
      simp [execOp, ho, hag.ev hx, Instr.panic]
    · exact h.elim
  case h_27 c ho =>
    split at h
    · rename_i as has
      have has' := hag.evLA has
      split at h
      · rename_i b hc
        obtain ⟨v, w', hr, h⟩ := bltT_sound (cs := c.args.map fun | .const _ => true | _ => false) h
        refine wp_val ?_ (hk _ _ h)
        simp only [execOp, ho, resolve, hc, Sem.run_bind, Sem.run_pure, Result.andThen_ok, invoke, has']
        exact hr
      · rename_i f hc
        split at h
        · rename_i v k hv hkd
          unfold callT at h
          split at h
          · rename_i g
            split at h
            · rename_i hg
              have hv' : Value.func (.func g) #[] #[] = v := by simpa [Env.ev] using hv
              subst hv'
              have hrun : (execOp a.eval o).run P w = .ok (.enter g as.toArray) w := by
                simp only [execOp, ho, resolve, hc, hag.ev hv, Deferred.ofValue, Sem.run_bind, Sem.run_pure, Result.andThen_ok, invoke, has']
                simpa using hC g hg as.toArray w
              split at h <;> simp only [Tr.wp] at h
              · refine wp_ent hrun (h.mono fun e' w' h' => ?_)
                cases e' with
                | returned v => obtain ⟨x, rfl, h'⟩ := h'; exact hk _ _ h'
                | panicked ch => exact hp _ _ h'
                | outgrown => exact h'.elim
              · refine wp_ent hrun (h.mono fun e' w' h' => ?_)
                cases e' with
                | returned v => obtain ⟨x, rfl, h'⟩ := h'; exact hk _ _ h'
                | panicked ch => exact hp _ _ h'
                | outgrown => exact h'.elim
            · exact h.elim
          · simp only [Tr.wp] at h
            obtain ⟨g, first, caps, rfl, hg, h⟩ := h
            have hrun : (execOp a.eval o).run P w = .ok (.enter g (first ++ as.toArray ++ caps)) w := by
              simp only [execOp, ho, resolve, hc, hag.ev hv, Deferred.ofValue, Sem.run_bind, Sem.run_pure, Result.andThen_ok, invoke, has']
              exact hg _ w
            refine wp_ent hrun (h.mono fun e' w' h' => ?_)
            cases e' with
            | returned v => obtain ⟨x, rfl, h'⟩ := h'; exact hk _ _ h'
            | panicked ch => exact hp _ _ h'.2
            | outgrown => exact h'.elim
        · exact h.elim
      · exact h.elim
    · exact h.elim
  case h_28 x xT t ok ho =>
    split at h
    · rename_i v k hx hk'
      obtain ⟨y, w', hr, h⟩ := h
      refine wp_val ?_ (hk _ _ h)
      simp only [execOp, ho, hag.ev hx]
      exact run_v hr
    · exact h.elim
  case h_29 => exact h.elim

end
end
end Go.Proofs.YthfcneahnldgnaaGreat.Vk
