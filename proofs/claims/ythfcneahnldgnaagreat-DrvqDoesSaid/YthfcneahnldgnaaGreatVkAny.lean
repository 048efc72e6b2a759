/- Vk, part 5: a region that draws its order: one tree serves every order. -/
import Derived.Test.YthfcneahnldgnaaGreatVkCode
namespace Go.Proofs.YthfcneahnldgnaaGreat.Vk
open Go
variable {D : List Deferred}
set_option linter.unusedSimpArgs false
set_option linter.unusedVariables false

section
variable {P : Program} {C : FuncId → Bool} {R : Ending → World → Prop} {Q : Exit → Act → World → Prop} {n : Nat} {e : Env} {a : Act} {w : World} {Ks : Conts} {np : Bool} {o : Oper} {K : Option Value → Tr}

/-! ### What is pure -/
theorem intT_pure {op : BinOp} {k : IntKind} {x y : Int} (hs : op ≠ .shl) (hs' : op ≠ .shr) (h : (intT op k x y K).wp P R Ks w) (t : TypeId) :
    ∃ v, (∀ w', (binOp op t (.int k x) (.int k y)).run P w' = .ok v w') ∧ (K (some v)).wp P R Ks w := by
  cases op <;> simp only [intT, Tr.wp, ne_eq] at h <;>
    first
    | exact h.elim
    | (exact absurd rfl hs)
    | (exact absurd rfl hs')
    | (refine ⟨_, fun w' => ?_, h⟩; simp [binOp, Op.intArith, Op.intBits, Op.intCmp, band, bor, bxor, bandn, bne]; done)
    | (refine ⟨_, fun w' => ?_, h⟩; simp [binOp, Op.intCmp, bne]; exact int_beq x y)
    | (refine ⟨_, fun w' => ?_, h.2⟩; simp [binOp, Op.intDiv, h.1])

theorem strT_pure {op : BinOp} {x y : ByteArray} (h : (strT op x y K).wp P R Ks w) (t : TypeId) :
    ∃ v, (∀ w', (binOp op t (.string x) (.string y)).run P w' = .ok v w') ∧ (K (some v)).wp P R Ks w := by
  cases op <;> simp only [strT, Tr.wp] at h <;>
    first
    | exact h.elim
    | (refine ⟨_, fun w' => ?_, h⟩; simp [binOp, Op.stringOp, toList_eq_iff, strLt]; done)
    | (refine ⟨_, fun w' => ?_, h.2⟩; simp only [binOp, Op.stringOp]; rw [if_neg (by have := h.1; rw [show IntKind.i64.max = 9223372036854775807 by decide]; omega)]; rfl)

theorem nilT_pure {op : BinOp} {t : TypeId} {x y : Operand} {va vb : Value} {b : Bool}
    (hg : ∀ w op, (eqGuard op t x y va vb).run P w = .ok () w) (hq : ∀ w, (Op.equal t va vb).run P w = .ok b w)
    (hb : ∀ op, op = .eql ∨ op = .neq → binOp op t va vb = match op with | .eql => (do pure (.bool (← Op.equal t va vb))) | _ => (do pure (.bool (!(← Op.equal t va vb)))))
    (h : (nilT op b K).wp P R Ks w) :
    ∃ v, (∀ w', (do eqGuard op t x y va vb; binOp op t va vb : Sem Value).run P w' = .ok v w') ∧ (K (some v)).wp P R Ks w := by
  unfold nilT at h
  split at h
  · refine ⟨_, fun w' => ?_, h⟩
    simp [hg, hb .eql (.inl rfl), hq]
  · refine ⟨_, fun w' => ?_, h⟩
    simp [hg, hb .neq (.inr rfl), hq]
  · exact h.elim

theorem binT_int {op : BinOp} {t : TypeId} {x y : Operand} {k : IntKind} {m : Int} {vb : Value} (h : (binT P op t x y (.int k m) vb K).wp P R Ks w) :
    ∃ v, (∀ w', (do eqGuard op t x y (.int k m) vb; binOp op t (.int k m) vb : Sem Value).run P w' = .ok v w') ∧ (K (some v)).wp P R Ks w := by
  cases vb with
  | int k' j =>
    have hg : ∀ w', (eqGuard op t x y (.int k m) (.int k' j)).run P w' = .ok () w' := fun w' => by unfold eqGuard; split <;> rfl
    simp only [Sem.run_bind, hg, Result.andThen_ok]
    simp only [binT] at h
    split at h
    · simp only [Tr.wp] at h
      refine ⟨_, fun w' => ?_, h.2⟩
      simp [binOp, Op.shift, Int.not_lt.2 h.1, bshl]
    · simp only [Tr.wp] at h
      refine ⟨_, fun w' => ?_, h.2⟩
      simp [binOp, Op.shift, Int.not_lt.2 h.1, bshr]
    · rename_i h1 h2
      split at h
      · rename_i hk
        have hk' : k = k' := by simpa using hk
        subst hk'
        exact intT_pure h1 h2 h t
      · exact h.elim
  | _ => exact h.elim
theorem binT_str {op : BinOp} {t : TypeId} {x y : Operand} {s : ByteArray} {vb : Value} (h : (binT P op t x y (.string s) vb K).wp P R Ks w) :
    ∃ v, (∀ w', (do eqGuard op t x y (.string s) vb; binOp op t (.string s) vb : Sem Value).run P w' = .ok v w') ∧ (K (some v)).wp P R Ks w := by
  cases vb with
  | string u =>
    have hg : ∀ w', (eqGuard op t x y (.string s) (.string u)).run P w' = .ok () w' := fun w' => by unfold eqGuard; split <;> rfl
    simp only [Sem.run_bind, hg, Result.andThen_ok]
    exact strT_pure h t
  | _ => exact h.elim
theorem binT_bool {op : BinOp} {t : TypeId} {x y : Operand} {p q : Bool} (h : (binT P op t x y (.bool p) (.bool q) K).wp P R Ks w) :
    ∃ v, (∀ w', (do eqGuard op t x y (.bool p) (.bool q); binOp op t (.bool p) (.bool q) : Sem Value).run P w' = .ok v w') ∧ (K (some v)).wp P R Ks w := by
  simp only [binT, eqT] at h
  split at h
  · rename_i hp
    have hu := isBool_spec hp
    refine nilT_pure (fun w op => by unfold eqGuard; split <;> rfl) (fun w => run_eqIn_bool w 9999 t p q hu) ?_ h
    rintro op (rfl | rfl) <;> rfl
  · exact h.elim
theorem binT_ptr {op : BinOp} {t : TypeId} {x y : Operand} {p : Option Addr} (h : (binT P op t x y (.pointer p) (.pointer none) K).wp P R Ks w) :
    ∃ v, (∀ w', (do eqGuard op t x y (.pointer p) (.pointer none); binOp op t (.pointer p) (.pointer none) : Sem Value).run P w' = .ok v w') ∧ (K (some v)).wp P R Ks w := by
  simp only [binT, eqT] at h
  split at h
  · rename_i hp
    obtain ⟨u, hu⟩ := isPtr_spec hp
    refine nilT_pure (fun w op => by unfold eqGuard; split <;> rfl) (fun w => run_equal_pointer_nil w t p (by simp [Program.pointee, hu])) ?_ h
    rintro op (rfl | rfl) <;> rfl
  · exact h.elim
theorem binT_slc {op : BinOp} {t : TypeId} {x y : Operand} {p : Option Addr} {l c : Nat} (h : (binT P op t x y (.slice p l c) (.slice none 0 0) K).wp P R Ks w) :
    ∃ v, (∀ w', (do eqGuard op t x y (.slice p l c) (.slice none 0 0); binOp op t (.slice p l c) (.slice none 0 0) : Sem Value).run P w' = .ok v w') ∧ (K (some v)).wp P R Ks w := by
  simp only [binT, eqT] at h
  split at h
  · rename_i hp
    obtain ⟨u, hu⟩ := isSlc_spec hp
    refine nilT_pure (fun w op => by unfold eqGuard; split <;> rfl) (fun w => run_eqIn_slice_nil w 9999 t u p l c hu) ?_ h
    rintro op (rfl | rfl) <;> rfl
  · exact h.elim

theorem bndT_pure {lo hi : Option Value} {len cap : Nat} {c : Nat → Nat → Tr} (isS : Bool) (h : (bndT lo hi len cap c).wp P R Ks w) :
    ∃ l r, (∀ w', (Instr.sliceBounds isS len cap lo hi none).run P w' = .ok (l, r, cap) w') ∧ (c l r).wp P R Ks w := by
  unfold bndT at h
  split at h
  · split at h
    · exact ⟨_, _, fun w' => by simp [Instr.sliceBounds], h⟩
    · simp only [Tr.wp] at h
      refine ⟨_, _, fun w' => ?_, h.2⟩
      simp [Instr.sliceBounds, run_sliceBound_ok _ _ _ _ h.1.1 h.1.2]
    · exact h.elim
  · split at h
    · simp only [Tr.wp] at h
      refine ⟨_, _, fun w' => ?_, h.2⟩
      simp [Instr.sliceBounds, run_sliceBound_ok _ _ _ _ h.1.1 h.1.2]
    · simp only [Tr.wp] at h
      obtain ⟨⟨h1, h2, h3, h4⟩, h⟩ := h
      refine ⟨_, _, fun w' => ?_, h⟩
      simp [Instr.sliceBounds, run_sliceBound_ok _ _ _ _ h1 h2, run_sliceBound_ok _ _ _ _ h3 (show _ ≤ ((_ : Int).toNat : Int) by rw [Int.toNat_of_nonneg h1]; exact h4)]
    · exact h.elim
  · exact h.elim

def Pv (P : Program) (R : Ending → World → Prop) (Ks : Conts) (a : Act) (o : Oper) (w : World) (K : Option Value → Tr) : Prop :=
  ∃ v, (∀ w', (execOp a.eval o).run P w' = .ok (.value v) w') ∧ (K (some v)).wp P R Ks w

theorem sxOp_pure (hag : Agree D n e a) (hpu : pureO o e.ev = true) (h : (sxOp P C np o e.ev K).wp P R Ks w) : Pv P R Ks a o w K := by
  unfold sxOp at h
  split at h
  case h_1 x ho =>
    split at h
    · rename_i v hv
      exact ⟨_, fun w' => by simp [execOp, ho, hag.ev hv], h⟩
    · exact h.elim
  case h_2 x ho =>
    split at h
    · rename_i v hv
      exact ⟨_, fun w' => by simp [execOp, ho, hag.ev hv], h⟩
    · exact h.elim
  case h_3 c x y ho =>
    split at h
    · rename_i t hc
      rw [cond_wp] at h
      cases t with
      | true =>
        have h := h.1 rfl
        split at h
        · rename_i v hv
          exact ⟨_, fun w' => by simp [execOp, ho, hag.ev hc, hag.ev hv, asBool], h⟩
        · exact h.elim
      | false =>
        have h := h.2 rfl
        split at h
        · rename_i v hv
          exact ⟨_, fun w' => by simp [execOp, ho, hag.ev hc, hag.ev hv, asBool], h⟩
        · exact h.elim
    · exact h.elim
  case h_6 T ps ho =>
    split at h
    · rename_i parts hparts
      split at h
      · rename_i cs hcs
        refine ⟨_, fun w' => ?_, h⟩
        simp only [execOp, ho]
        refine run_v ?_
        have hm := hag.evParts hparts
        have : (ps.map fun x => (x.1, a.eval x.2)) = parts.toArray := by
          apply Array.ext'; simpa using hm
        rw [show (Array.map (fun x => match x with | (i, x) => (i, a.eval x)) ps) = parts.toArray from this]
        exact fillP_sound hcs w'
      · exact h.elim
    · exact h.elim
  case h_10 x ho =>
    split at h
    · rename_i p hv
      rw [nil_wp] at h
      obtain ⟨b, rfl, h⟩ := h
      exact ⟨_, fun w' => by simp [execOp, ho, hag.ev hv], h⟩
    · exact h.elim
  case h_11 op t x y yt ho =>
    split at h
    · rename_i va vb hx hy
      have key : ∃ v, (∀ w', (do eqGuard op t x y va vb; binOp op t va vb : Sem Value).run P w' = .ok v w') ∧ (K (some v)).wp P R Ks w := by
        simp only [pureO, ho, hx, hy] at hpu
        split at hpu
        · rename_i hq; simp only [Option.some.injEq] at hq; subst hq; exact binT_int h
        · rename_i hq; simp only [Option.some.injEq] at hq; subst hq; exact binT_str h
        · rename_i hq; simp only [Option.some.injEq] at hq; subst hq
          split at hpu
          · rename_i hq; simp only [Option.some.injEq] at hq; subst hq; exact binT_bool h
          · cases hpu
        · rename_i hq; simp only [Option.some.injEq] at hq; subst hq
          split at hpu
          · rename_i hq; simp only [Option.some.injEq] at hq; subst hq; exact binT_ptr h
          · cases hpu
        · rename_i hq; simp only [Option.some.injEq] at hq; subst hq
          split at hpu
          · rename_i hq; simp only [Option.some.injEq] at hq; subst hq; exact binT_slc h
          · cases hpu
        · cases hpu
      obtain ⟨v, hr, h⟩ := key
      refine ⟨v, fun w' => ?_, h⟩
      simp only [execOp, ho, hag.ev hx, hag.ev hy]
      exact run_v (hr w')
    · exact h.elim
  case h_12 op t x ho =>
    split at h
    · rename_i b hv
      split at h
      · exact ⟨_, fun w' => by simp [execOp, ho, hag.ev hv, Op.unary], h⟩
      · exact h.elim
    · rename_i k m hv
      split at h
      · exact ⟨_, fun w' => by simp [execOp, ho, hag.ev hv, Op.unary, Op.intArith], h⟩
      · exact h.elim
    · exact h.elim
  case h_13 src dst x ho =>
    split at h
    · rename_i k m hv
      split at h
      · rename_i d k' hu hu'
        refine ⟨_, fun w' => ?_, h⟩
        simp only [execOp, ho, hag.ev hv]
        refine run_v ?_
        simp [convert, run_underlying hu, run_underlying hu', Conv.intToInt]
      · exact h.elim
    · rename_i v hne hv
      simp only [pureO, ho, hv] at hpu
      split at hpu
      · rename_i hq; simp only [Option.some.injEq] at hq; exact absurd hq (hne _ _)
      · cases hpu
    · exact h.elim
  case h_14 t x ho =>
    split at h
    · rename_i v hv hc
      refine ⟨_, fun w' => ?_, h⟩
      simp only [execOp, ho, hag.ev hv]
      refine run_v ?_
      unfold isConc at hc
      split at hc
      · cases hc
      · rename_i d hd hu
        simp only [Instr.makeInterface, Sem.run_bind, run_underlying hu, Result.andThen_ok]
        rfl
      · cases hc
    · exact h.elim
  case h_15 fn first caps ho =>
    split at h
    · rename_i f c hf hc
      refine ⟨_, fun w' => ?_, h⟩
      simp only [execOp, ho, hag.evLA hf, hag.evLA hc]
      exact run_v rfl
    · exact h.elim
  case h_18 t x lo hi mx ho =>
    split at h
    · rename_i s l r hx hl hr
      split at h
      · rename_i hu
        obtain ⟨i, j, hb, h⟩ := bndT_pure false h
        refine ⟨_, fun w' => ?_, h⟩
        simp only [execOp, ho, hag.ev hx, hag.opt1 hl, hag.opt1 hr]
        refine run_v ?_
        simp [Instr.sliceAt, Instr.slice, run_underlying hu, hb]
      · exact h.elim
    · rename_i b m c l r hx hl hr
      split at h
      · rename_i e' hu
        split at h
        · rename_i size hsz
          obtain ⟨i, j, hb, h⟩ := bndT_pure true h
          refine ⟨_, fun w' => ?_, h⟩
          simp only [execOp, ho, hag.ev hx, hag.opt1 hl, hag.opt1 hr]
          refine run_v ?_
          simp [Instr.sliceAt, Instr.slice, run_underlying hu, hb, run_sizeP hsz, slB]
        · exact h.elim
      · exact h.elim
    · exact h.elim
  case h_19 s x f ho =>
    split at h
    · rename_i p fs hx hu
      split at h
      · rename_i fd hfd
        split at h
        · rename_i m hsz
          rw [nil_wp] at h
          obtain ⟨b, rfl, h⟩ := h
          refine ⟨_, fun w' => ?_, h⟩
          simp only [execOp, ho, hag.ev hx]
          refine run_v ?_
          have hfd' : fs[f]? = some fd := by simpa using hfd
          simp [Instr.fieldAt, run_underlying hu, hfd', Instr.sureAddr, fieldPlace, run_sizeP hsz]
        · exact h.elim
      · exact h.elim
    · exact h.elim
  case h_20 t x f ho =>
    split at h
    · rename_i cs fs hx hu
      split at h
      · rename_i fd hfd
        have hfd' : fs[f]? = some fd := by simpa using hfd
        split at h
        · rename_i s hkd
          split at h
          · rename_i v hv
            refine ⟨v, fun w' => ?_, h⟩
            simp only [execOp, ho, hag.ev hx]
            refine run_v ?_
            have hv' : cs[fd.offset]? = some v := by simpa using hv
            simp [Instr.field, run_underlying hu, hfd', asAgg, part, isAgg_sc hkd, hv']
          · exact h.elim
        · rename_i l hkd
          split at h
          · rename_i m hsz
            refine ⟨_, fun w' => ?_, h⟩
            simp only [execOp, ho, hag.ev hx]
            refine run_v ?_
            have : cs.extract fd.offset (fd.offset + m) = ((cs.toList.drop fd.offset).take m).toArray := by
              apply Array.ext'
              simp [Array.toList_extract, List.extract]
            simp [Instr.field, run_underlying hu, hfd', asAgg, part, isAgg_agg hkd, run_sizeP hsz, this]
          · exact h.elim
        · exact h.elim
      · exact h.elim
    · exact h.elim
  case h_21 t x i ho =>
    split at h
    · rename_i b m c k j e' hx hi hu
      split at h
      · rename_i size hsz
        simp only [Tr.wp, nil_wp] at h
        obtain ⟨⟨h1, h2⟩, d, rfl, h⟩ := h
        refine ⟨_, fun w' => ?_, h⟩
        simp only [execOp, ho, hag.ev hx, hag.ev hi]
        refine run_v ?_
        simp [Instr.indexAt, asIntOf, run_underlying hu, run_sizeP hsz, h1, h2]
      · exact h.elim
    · rename_i p k j m e' hx hi hu
      split at h
      · rename_i size hsz
        rw [nil_wp] at h
        obtain ⟨d, rfl, ⟨h1, h2⟩, h⟩ := h
        refine ⟨_, fun w' => ?_, h⟩
        simp only [execOp, ho, hag.ev hx, hag.ev hi]
        refine run_v ?_
        simp [Instr.indexAt, asIntOf, run_underlying hu, run_sizeP hsz, h1, h2, Instr.sureAddr]
      · exact h.elim
    · exact h.elim
  case h_22 t x i ho =>
    split at h
    · rename_i s k j hx hi
      split at h
      · rename_i hu
        simp only [Tr.wp] at h
        obtain ⟨⟨h1, h2⟩, h⟩ := h
        refine ⟨_, fun w' => ?_, h⟩
        simp only [execOp, ho, hag.ev hx, hag.ev hi]
        refine run_v ?_
        have hlt : j.toNat < s.size := by omega
        have hb : bt s j = ((s[j.toNat]'hlt).toNat : Int) := by
          unfold bt
          have : s.data.getD j.toNat 0 = s[j.toNat]'hlt := by
            simp only [Array.getD, ByteArray.size_data, hlt, dif_pos]; rfl
          rw [this]
        simp [Instr.index, asIntOf, run_underlying hu, h1, hlt, hb]
      · exact h.elim
    · rename_i cs v hx hi
      simp only [pureO, ho, hx] at hpu
      cases hpu
    · exact h.elim
  case h_25 x i ho =>
    split at h
    · rename_i vs hx
      split at h
      · rename_i v hv
        refine ⟨v, fun w' => ?_, h⟩
        simp only [execOp, ho, hag.ev hx]
        refine run_v ?_
        have hv' : vs[i]? = some v := by simpa using hv
        simp [Instr.extract, hv']
      · exact h.elim
    · exact h.elim
  case h_27 c ho =>
    split at h
    · rename_i as has
      have has' := hag.evLA has
      split at h
      · rename_i b hc
        have key : ∃ v, (∀ cs w', (builtin b c.argTypes o.type cs as.toArray).run P w' = .ok (.value v) w') ∧ (K (some v)).wp P R Ks w := by
          cases b <;> first | (exfalso; simp [pureO, ho, hc] at hpu; done) | skip
          case cap =>
            simp only [bltT] at h
            split at h
            · split at h
              · split at h
                · rename_i p m c' hl
                  refine ⟨_, fun cs w' => run_v ?_, h⟩
                  obtain ⟨t0, e0, h0, hu⟩ := lenOk_slc hl
                  simp [Builtin.cap_, h0, run_underlying hu, goInt]
                · exact h.elim
              · exact h.elim
            · exact h.elim
          case len =>
            simp only [pureO, ho, hc, has] at hpu
            simp only [bltT] at h
            split at h
            · rename_i v
              split at h
              · split at h
                · rename_i s hl
                  refine ⟨_, fun cs w' => run_v ?_, h⟩
                  obtain ⟨t0, h0, hu⟩ := lenOk_str hl
                  simp [Builtin.len_, h0, run_underlying hu, goInt]
                · exact h.elim
              · split at h
                · rename_i p m c' hl
                  refine ⟨_, fun cs w' => run_v ?_, h⟩
                  obtain ⟨t0, e0, h0, hu⟩ := lenOk_slc hl
                  simp [Builtin.len_, h0, run_underlying hu, goInt]
                · exact h.elim
              · rename_i h1 h2
                exfalso
                cases v <;> first | exact h1 _ rfl | exact h2 _ _ _ rfl | (simp at hpu)
            · exact h.elim
          case min =>
            simp only [bltT] at h
            split at h
            · rename_i v hv
              refine ⟨v, fun cs w' => ?_, h⟩
              unfold minT at hv
              split at hv
              · refine run_v ?_
                simp only [Builtin.min_]
                exact minG_sound _ _ _ _ hv
              · cases hv
            · exact h.elim
          case max =>
            simp only [bltT] at h
            split at h
            · rename_i v hv
              refine ⟨v, fun cs w' => ?_, h⟩
              unfold maxT at hv
              split at hv
              · refine run_v ?_
                simp only [Builtin.max_]
                exact maxG_sound _ _ _ _ hv
              · cases hv
            · exact h.elim
        obtain ⟨v, hr, h⟩ := key
        refine ⟨v, fun w' => ?_, h⟩
        simp only [execOp, ho, resolve, hc, Sem.run_bind, Sem.run_pure, Result.andThen_ok, invoke, has']
        exact hr _ w'
      · rename_i f hc
        simp only [pureO, ho, hc] at hpu
        cases hpu
      · exact h.elim
    · exact h.elim
  case h_29 => exact h.elim
  all_goals (rename_i ho; simp only [pureO, ho] at hpu; cases hpu)

/-! ### Operations that were taken first -/
/-- In act 'a', in every world of D, the operation yields v and leaves the world. -/
def YieldsD (P : Program) (ops : Array Oper) (o : Oper) (v : Value) (D : World → Prop) (a : Act) : Prop :=
  (Region.wanted o (yielded ops a.tmps) = true ∧ ∀ w, D w → (execOp a.eval o).run P w = .ok (.value v) w) ∨
  (Region.wanted o (yielded ops a.tmps) = false ∧ v = undef)

variable {ops : Array Oper}

theorem YieldsD.of_same {o : Oper} {v : Value} {D : World → Prop} {a a' : Act} (hy : YieldsD P ops o v D a) (he : execOp a'.eval o = execOp a.eval o)
    (hw : Region.wanted o (yielded ops a'.tmps) = Region.wanted o (yielded ops a.tmps)) : YieldsD P ops o v D a' := by
  unfold YieldsD at *
  rw [he, hw]
  exact hy

theorem YieldsD.wpOp {i : Nat} {o : Oper} {v : Value} {D : World → Prop} {a : Act} (hi : ops[i]? = some o) (hy : YieldsD P ops o v D a) {K : Act → World → Prop} {w : World} (hD : D w)
    (h : K (a.put o.dst v) w) : wpOp P ops Q i K a w := by
  unfold Go.wpOp
  simp only [hi]
  rcases hy with ⟨hw, hv⟩ | ⟨hw, rfl⟩
  · simp only [hw, if_true, Oper.wp, hv w hD, Oper.upon]; exact .inl h
  · simp only [hw, Bool.false_eq_true, if_false]; exact h

/-- A post that knows the normal end alone. -/
def Only (N : Act → World → Prop) (Pn : List PanicEntry → Act → World → Prop) : Exit → Act → World → Prop
  | .normal, a, w => N a w
  | .panic ch, a, w => Pn ch a w
  | _, _, _ => False

theorem only_noLets (N : Act → World → Prop) (Pn : List PanicEntry → Act → World → Prop) : ¬ LetsOut (Only N Pn) := fun ⟨_, _, h⟩ => h
/-- A post on panics that does not look at what the region's operations wrote. -/
def Blind (ops : Array Oper) (Pn : List PanicEntry → Act → World → Prop) : Prop := ∀ (ch : List PanicEntry) (a : Act) (i : Nat) (o : Oper) (v : Value) (w : World), ops[i]? = some o → Pn ch (a.put o.dst v) w → Pn ch a w

theorem wpOp_putD {N : Act → World → Prop} {Pn : List PanicEntry → Act → World → Prop} (hPn : Blind ops Pn) {i j : Nat} {oi oj : Oper} {v : Value} {D : World → Prop} (hi : ops[i]? = some oi) (hj : ops[j]? = some oj) (hap : oi.apart ops oj = true)
    (hsi : ∀ cs b, oi.op ≠ .select cs b) (hsj : ∀ cs b, oj.op ≠ .select cs b) {K : Act → World → Prop} {a : Act} {w : World}
    (hy : YieldsD P ops oi v D a) (h : wpOp P ops (Only N Pn) j K (a.put oi.dst v) w) :
    wpOp P ops (Only N Pn) j (fun a' w' => YieldsD P ops oi v D a' ∧ K (a'.put oi.dst v) w') a w := by
  obtain ⟨h1, h2, h3⟩ := Oper.apart_spec hap
  have keep : ∀ (a : Act), YieldsD P ops oi v D a → ∀ u, YieldsD P ops oi v D (a.put oj.dst u) := fun a hy u =>
    hy.of_same (execOp_put oi hsi a oj.dst u h3) (wanted_put oi a oj.dst u h3)
  have keepD : ∀ d, YieldsD P ops oi v D { a with defers := d :: a.defers } := fun d => hy.of_same rfl rfl
  unfold wpOp at *
  simp only [hj] at *
  rw [wanted_put oj a oi.dst v h1] at h
  split
  · rename_i hw
    simp only [hw, if_true] at h
    rcases h with h | ⟨hasks, hlets⟩
    case inr => exact absurd hlets (only_noLets N Pn)
    refine .inl ?_
    unfold Oper.wp at *
    rw [execOp_put oj hsj a oi.dst v h1] at h
    generalize (execOp a.eval oj).run P w = r at *
    cases r with
    | ok n w' =>
      cases n <;> simp only [Oper.upon] at h ⊢
      case value u => exact ⟨keep a hy u, by rw [← Act.put_comm a v u h2]; exact h⟩
      case skip => exact ⟨keep a hy _, by rw [← Act.put_comm a v undef h2]; exact h⟩
      case defer d =>
        refine ⟨keep _ (keepD d) _, ?_⟩
        rw [← Act.put_comm _ v undef h2, ← Act.put_defers]
        exact h
      case enter f args =>
        refine Calls.mono h fun e w'' he => ?_
        cases e with
        | returned u => exact ⟨keep a hy u, by rw [← Act.put_comm a v u h2]; exact he⟩
        | panicked c => exact hPn _ _ i oi v _ hi he
        | outgrown => exact he
      case row row args => exact Rows.mono h fun u w'' he => ⟨keep a hy u, by rw [← Act.put_comm a v u h2]; exact he⟩
    | halt x w' =>
      cases x <;> simp only [Oper.upon] at h ⊢
      case panic u => exact hPn _ _ i oi v _ hi h
  · rename_i hw
    simp only [hw] at h
    exact ⟨keep a hy _, by rw [← Act.put_comm a v undef h2]; exact h⟩

abbrev Taken := List (Nat × (World → Prop))
def Taken.cut (ops : Array Oper) (j : Nat) (T : Taken) : Taken := T.filter fun x => !reach ops 4 j x.1
def Taken.ok (T : Taken) (w : World) : Prop := ∀ x ∈ T, x.2 w

def wpT (P : Program) (ops : Array Oper) (Q : Exit → Act → World → Prop) : Nat → Array Bool → Taken → Act → World → Prop
  | 0, listed, _, a, w => Region.ready .any ops listed = [] ∧ Q .normal a w
  | fuel + 1, listed, T, a, w =>
    (Region.ready .any ops listed = [] → Q .normal a w) ∧
    ∀ j ∈ Region.ready .any ops listed, wpOp P ops Q j (fun a' w' => (T.cut ops j).ok w' ∧ wpT P ops Q fuel (listed.setIfInBounds j true) (T.cut ops j) a' w') a w

theorem wpT_any : ∀ (fuel : Nat) (listed : Array Bool) (T : Taken) (a : Act) (w : World), wpT P ops Q fuel listed T a w → wpAny P .any ops Q fuel listed a w
  | 0, _, _, _, _, h => h
  | fuel + 1, listed, T, a, w, h => ⟨h.1, fun j hj => wpOp_mono (fun a' w' h' => wpT_any fuel _ _ a' w' h'.2) (h.2 j hj)⟩

def Taken.le (T T' : Taken) : Prop := ∀ x ∈ T, x ∈ T' ∨ ∀ w, x.2 w
theorem Taken.le.cut {T T' : Taken} (h : T.le T') (j : Nat) : (T.cut ops j).le (T'.cut ops j) := fun x hx => by
  simp only [Taken.cut, List.mem_filter] at hx ⊢
  rcases h x hx.1 with h' | h'
  · exact .inl ⟨h', hx.2⟩
  · exact .inr h'
theorem Taken.le.ok {T T' : Taken} (h : T.le T') {w : World} (ho : T'.ok w) : T.ok w := fun x hx => by
  rcases h x hx with h' | h'
  · exact ho x h'
  · exact h' w

theorem wpT_mono : ∀ (fuel : Nat) (listed : Array Bool) (T T' : Taken) (a : Act) (w : World), T.le T' → wpT P ops Q fuel listed T' a w → wpT P ops Q fuel listed T a w
  | 0, _, _, _, _, _, _, h => h
  | fuel + 1, listed, T, T', a, w, hle, h => ⟨h.1, fun j hj => wpOp_mono (fun a' w' h' => ⟨(hle.cut j).ok h'.1, wpT_mono fuel _ _ _ a' w' (hle.cut j) h'.2⟩) (h.2 j hj)⟩

/-- Whatever was listed waits for nothing that was not. -/
def Closed (ops : Array Oper) (listed : Array Bool) : Prop := ∀ j o, ops[j]? = some o → listed.getD j false = true → ∀ e ∈ o.after, Region.binds .any e = true → listed.getD e.on false = true

theorem Closed.reach {listed : Array Bool} (hc : Closed ops listed) : ∀ (d j i : Nat), (∀ o, ops[j]? = some o → ∀ e ∈ o.after, Region.binds .any e = true → listed.getD e.on false = true) → reach ops d j i = true → listed.getD i false = true
  | 0, _, _, _, h => by simp [Vk.reach] at h
  | d + 1, j, i, hj, h => by
    simp only [Vk.reach] at h
    split at h
    · rename_i o ho
      simp only [Bool.or_eq_true, List.any_eq_true, Bool.and_eq_true] at h
      rcases h with ⟨e, he, hb, hi⟩ | ⟨e, he, hb, hi⟩
      · have : e.on = i := Nat.eq_of_beq_eq_true hi
        subst this
        exact hj o ho e (by simpa using he) hb
      · have hl := hj o ho e (by simpa using he) hb
        exact Closed.reach hc d e.on i (fun o' ho' e' he' hb' => hc e.on o' ho' hl e' he' hb') hi
    · cases h

theorem getD_both' {listed : Array Bool} {i : Nat} (h : listed.getD i true = false) : listed.getD i false = false := by
  rcases Nat.lt_or_ge i listed.size with h' | h'
  · simp [h'] at h ⊢; exact h
  · simp [Array.getElem?_eq_none h'] at h

theorem Closed.step {listed : Array Bool} (hc : Closed ops listed) {j : Nat} (hj : j ∈ Region.ready .any ops listed) : Closed ops (listed.setIfInBounds j true) := by
  obtain ⟨_, oj, hoj, hall⟩ := mem_ready.1 hj
  intro k o ho hl e he hb
  by_cases hjk : j = k
  · subst hjk
    have : o = oj := Option.some.inj (ho.symm.trans hoj)
    subst this
    exact getD_set_true (hall e he hb)
  · rw [getD_set_ne false hjk] at hl
    exact getD_set_true (hc k o ho hl e he hb)

/-- **What may be taken first.** -/
theorem wpT_first {N : Act → World → Prop} {Pn : List PanicEntry → Act → World → Prop} (hPn : Blind ops Pn) {i : Nat} {oi : Oper} {v : Value} {D : World → Prop} (hi : ops[i]? = some oi) (hsel : ∀ (j : Nat) (o : Oper) cs b, ops[j]? = some o → o.op ≠ .select cs b) :
    ∀ (fuel : Nat) (listed : Array Bool) (T : Taken) (a : Act) (w : World), Closed ops listed →
      (∀ j oj, ops[j]? = some oj → j ≠ i → listed.getD j true = false → (∀ e ∈ oj.after, Region.binds .any e = true → e.on ≠ i) → oi.apart ops oj = true) →
      i ∈ Region.ready .any ops listed → YieldsD P ops oi v D a → D w → T.ok w →
      wpT P ops (Only N Pn) fuel (listed.setIfInBounds i true) ((i, D) :: T) (a.put oi.dst v) w → wpT P ops (Only N Pn) (fuel + 1) listed T a w := by
  have cutOk : ∀ {T : Taken} {w : World} (j : Nat), T.ok w → (T.cut ops j).ok w := fun j h x hx => h x (List.mem_filter.1 hx).1
  have cutLe : ∀ {T : Taken} (j : Nat) (y : Nat × (World → Prop)), (T.cut ops j).le (y :: T) := fun j y x hx => .inl (List.mem_cons_of_mem _ (List.mem_filter.1 hx).1)
  intro fuel
  induction fuel with
  | zero =>
    intro listed T a w hcl _ hr hy hD hT H
    refine ⟨fun h => (by rw [h] at hr; cases hr), fun j hj => ?_⟩
    by_cases hji : j = i
    · subst hji; exact hy.wpOp hi hD ⟨cutOk j hT, H⟩
    · have := ready_mono hj hji
      rw [H.1] at this
      cases this
  | succ fuel ih =>
    intro listed T a w hcl hfree hr hy hD hT H
    refine ⟨fun h => (by rw [h] at hr; cases hr), fun j hj => ?_⟩
    by_cases hji : j = i
    · subst hji; exact hy.wpOp hi hD ⟨cutOk j hT, wpT_mono _ _ _ _ _ _ (cutLe j _) H⟩
    · have h1 := H.2 j (ready_mono hj hji)
      obtain ⟨hjun, oj, hoj, hall⟩ := mem_ready.1 hj
      have hiun := (mem_ready.1 hr).1
      have hnoreach : reach ops 4 j i = false := by
        cases hre : reach ops 4 j i with
        | false => rfl
        | true =>
          have := hcl.reach 4 j i (fun o ho e he hb => by
            have : o = oj := Option.some.inj (ho.symm.trans hoj)
            subst this; exact hall e he hb) hre
          rw [getD_both' hiun] at this; cases this
      have hnot : ∀ e ∈ oj.after, Region.binds .any e = true → e.on ≠ i := fun e he hb heq => by
        have h1 := hall e he hb
        rw [heq, getD_both' hiun] at h1; cases h1
      have h2 := wpOp_putD hPn hi hoj (hfree j oj hoj hji hjun hnot) (fun cs b => hsel i oi cs b hi) (fun cs b => hsel j oj cs b hoj) hy h1
      have hcut : Taken.cut ops j ((i, D) :: T) = (i, D) :: T.cut ops j := by simp [Taken.cut, hnoreach]
      have hfree' : ∀ k ok, ops[k]? = some ok → k ≠ i → (listed.setIfInBounds j true).getD k true = false →
          (∀ e ∈ ok.after, Region.binds .any e = true → e.on ≠ i) → oi.apart ops ok = true := fun k ok hk hki hun hno => by
        refine hfree k ok hk hki ?_ hno
        by_cases hjk : j = k
        · subst hjk; exact hjun
        · rw [getD_set_ne true hjk] at hun; exact hun
      refine wpOp_mono (fun a' w' h3 => ?_) h2
      obtain ⟨hy', hok, h3⟩ := h3
      rw [hcut] at hok h3
      have hok' : (T.cut ops j).ok w' := fun x hx => hok x (List.mem_cons_of_mem _ hx)
      refine ⟨hok', ih (listed.setIfInBounds j true) _ a' w' (hcl.step hj) hfree' (ready_mono hr (Ne.symm hji)) hy' (hok (i, D) (List.mem_cons_self ..)) hok' ?_⟩
      rw [Array.setIfInBounds_comm _ _ hji]
      exact h3

/-! ### The tree of a region that draws its order -/
/-- What a guard leaves. -/
theorem sxG_sound {run skip : Env → Tr} {G : Prop} (hag : Agree D n e a) (h : (sxG ops.toList o e run skip).wp P R Ks w)
    (hr : ∀ e', Agree D n e' a → Region.wanted o (yielded ops a.tmps) = true → (run e').wp P R Ks w → G)
    (hs : ∀ e', Agree D n e' a → Region.wanted o (yielded ops a.tmps) = false → (skip e').wp P R Ks w → G) : G := by
  unfold sxG at h
  split at h
  · rename_i hg
    exact hr e hag (by simp [Region.wanted, hg]) h
  · rename_i j want hg
    have hwant : Region.wanted o (yielded ops a.tmps) = (yielded ops a.tmps j == some want) := by simp [Region.wanted, hg]
    rw [dstOf_eq] at h
    split at h
    · rename_i hj
      exact hs e hag (by rw [hwant]; simp [yielded, hj]) h
    · rename_i d hj
      split at h
      · rename_i b hb
        have hb' := hag.get _ _ hb
        have hy : yielded ops a.tmps j = some b := by simp [yielded, hj, hb']
        rw [hy] at hwant
        rw [cond_wp] at h
        cases b with
        | true =>
          have h := h.1 rfl
          cases want with
          | true => exact hr _ (hag.set hb') (by rw [hwant]; simp) h
          | false => exact hs _ (hag.set hb') (by rw [hwant]; simp) h
        | false =>
          have h := h.2 rfl
          cases want with
          | true => exact hs _ (hag.set hb') (by rw [hwant]; simp) h
          | false => exact hr _ (hag.set hb') (by rw [hwant]; simp) h
      · rename_i vs hb
        have hb' := hag.get _ _ hb
        exact hs e hag (by rw [hwant]; simp [yielded, hj, hb']) h
      · exact h.elim

theorem sxPure_sound {K : Env → Tr} (hag : Agree D n e a) (h : (sxPure P C n ops.toList o e K).wp P R Ks w) :
    ∃ e' v, YieldsD P ops o v (fun _ => True) a ∧ Agree D n e' (a.put o.dst v) ∧ (K e').wp P R Ks w := by
  unfold sxPure at h
  split at h
  case h_2 => exact h.elim
  rename_i hd
  refine sxG_sound hag h (fun e' hag' hw h => ?_) (fun e' hag' hw h => ?_)
  · split at h
    · rename_i hp
      obtain ⟨v, hr, h⟩ := sxOp_pure hag' hp h
      exact ⟨_, v, .inl ⟨hw, fun w _ => hr w⟩, hag'.put hd, h⟩
    · exact h.elim
  · exact ⟨_, undef, .inr ⟨hw, rfl⟩, hag'.put hd, h⟩

theorem sxLoad_sound {K : Env → Option (Addr × List Value) → Tr} {t : TypeId} {x : Operand} (ho : o.op = .load t x) (hag : Agree D n e a) (h : (sxLoad P n ops.toList o t x e K).wp P R Ks w) :
    ∃ e' v f, Agree D n e' (a.put o.dst v) ∧ (K e' f).wp P R Ks w ∧ ((f = none ∧ YieldsD P ops o v (fun _ => True) a) ∨ ∃ p l, f = some (p, l) ∧ hasL w p 0 l ∧ YieldsD P ops o v (fun w => hasL w p 0 l) a) := by
  unfold sxLoad at h
  split at h
  case h_2 => exact h.elim
  rename_i hd
  refine sxG_sound hag h (fun e' hag' hw h => ?_) (fun e' hag' hw h => ?_)
  · split at h
    · rename_i p k hv hkd
      split at h
      · rename_i hf
        rw [nil_wp] at h
        obtain ⟨b, rfl, y, hl, h⟩ := h
        refine ⟨_, k.v y, _, hag'.put hd, h, .inr ⟨b, _, rfl, hl, .inl ⟨hw, fun w' hl' => ?_⟩⟩⟩
        simp only [execOp, ho, hag'.ev hv]
        refine run_v ?_
        simp only [Instr.loadAt, Instr.sureAddr, Sem.run_bind, Sem.run_pure, Result.andThen_ok]
        exact run_loadVar_kd hkd hf hl'
      · exact h.elim
    · exact h.elim
  · exact ⟨_, undef, none, hag'.put hd, h, .inl ⟨rfl, .inr ⟨hw, rfl⟩⟩⟩

theorem bothL_wp : ∀ {l : List Tr}, (bothL l).wp P R Ks w → ∀ t ∈ l, t.wp P R Ks w
  | [], h, _, _ => h.elim
  | [t], h, u, hu => by simp at hu; subst hu; exact h
  | t :: t' :: r, h, u, hu => by
    simp only [bothL, Tr.wp] at h
    rcases List.mem_cons.1 hu with rfl | hu
    · exact h.1
    · exact bothL_wp h.2 u hu

def Pend.T (p : Pend) : Taken := p.map fun x => (x.1, fun w => hasL w x.2.1 0 x.2.2)
theorem Pend.T_cut (j : Nat) (p : Pend) : (Pend.cut ops j p).T = Taken.cut ops j p.T := by
  unfold Pend.cut Pend.T Taken.cut
  rw [List.filter_map]
  rfl

theorem le_true (i : Nat) (T : Taken) : Taken.le ((i, fun _ => True) :: T) T := fun x hx => by
  rcases List.mem_cons.1 hx with rfl | hx
  · exact .inr fun _ => trivial
  · exact .inl hx

theorem firstTake_spec {listed : Array Bool} : ∀ {l : List Nat} {i : Nat}, firstTake ops listed e l = some i → i ∈ l ∧ takeK ops listed e i ≠ 0
  | [], _, h => by cases h
  | j :: r, i, h => by
    simp only [firstTake] at h
    split at h
    · have := firstTake_spec h
      exact ⟨List.mem_cons_of_mem _ this.1, this.2⟩
    · rename_i hn
      simp only [Option.some.injEq] at h
      subst h
      exact ⟨List.mem_cons_self .., hn⟩

theorem takeK_free {listed : Array Bool} {i : Nat} (h : takeK ops listed e i ≠ 0) : Region.free .any ops listed i = true := by
  unfold takeK at h
  split at h
  · exact absurd rfl h
  · split at h
    · split at h
      · assumption
      · exact absurd rfl h
    split at h
    · split at h
      · assumption
      · exact absurd rfl h
    · split at h
      · split at h
        · assumption
        · exact absurd rfl h
      · exact absurd rfl h
theorem splitB_sound {i : Nat} {K : Env → Tr} (hag : Agree D n e a) (h : (splitB ops.toList i o e K).wp P R Ks w) : ∃ e', Agree D n e' a ∧ (K e').wp P R Ks w := by
  unfold splitB at h
  split at h
  · split at h
    · rename_i d hd
      split at h
      · rename_i b hb
        have hb' := hag.get _ _ hb
        rw [cond_wp] at h
        cases b with
        | true => exact ⟨_, hag.set hb', h.1 rfl⟩
        | false => exact ⟨_, hag.set hb', h.2 rfl⟩
      · exact ⟨e, hag, h⟩
    · exact ⟨e, hag, h⟩
  · exact ⟨e, hag, h⟩

theorem mem_dstsL {i d : Nat} {o : Oper} (hi : ops[i]? = some o) (hd : o.dst = some d) : d ∈ dstsL ops.toList := by
  unfold dstsL
  rw [List.mem_filterMap]
  exact ⟨o, by simpa using Array.mem_of_getElem? hi, hd⟩

theorem sxAny_sound {a0 : Act} {K : Env → Tr} {Pn : List PanicEntry → Act → World → Prop} (hPn : Blind ops Pn) (hpan : ∀ ch a w, a.defers = D → Fr (dstsL ops.toList) a0 a → R (.panicked ch) w → Pn ch a w) (hC : Callable P C) (hsel : Region.noSelect ops = true) :
    ∀ (fuel : Nat) (listed : Array Bool) (pend : Pend) (e : Env) (a : Act) (w : World), Closed ops listed → Agree D n e a → Fr (dstsL ops.toList) a0 a → pend.T.ok w →
      (sxAny P C n ops fuel listed pend e K).wp P R Ks w →
      wpT P ops (Only (fun a' w' => ∃ e', Agree D n e' a' ∧ Fr (dstsL ops.toList) a0 a' ∧ (K e').wp P R Ks w') Pn) fuel listed pend.T a w := by
  intro fuel
  induction fuel with
  | zero =>
    intro listed pend e a w hcl hag hfr hok h
    unfold sxAny at h
    split at h
    · rename_i hr
      exact ⟨hr, e, hag, hfr, h⟩
    · exact h.elim
  | succ fuel ih =>
    intro listed pend e a w hcl hag hfr hok h
    have frPut : ∀ {i : Nat} {o : Oper} {v : Value}, ops[i]? = some o → Fr (dstsL ops.toList) a0 (a.put o.dst v) := fun hi =>
      hfr.trans (Fr.put fun d hd => mem_dstsL hi hd)
    unfold sxAny at h
    split at h
    · rename_i hr
      exact ⟨fun _ => ⟨e, hag, hfr, h⟩, fun j hj => by rw [hr] at hj; cases hj⟩
    · rename_i hne
      split at h
      · rename_i i hft
        obtain ⟨hir, htk⟩ := firstTake_spec hft
        have hfree := takeK_free htk
        split at h
        · rename_i o hi
          split at h
          · rename_i t x ho
            obtain ⟨e'', v, f, hag'', h, hf⟩ := sxLoad_sound ho hag h
            obtain ⟨e', hag', h⟩ := splitB_sound hag'' h
            rcases hf with ⟨rfl, hy⟩ | ⟨p, l, rfl, hl, hy⟩
            · have := ih _ _ _ _ _ (hcl.step hir) hag' (frPut hi) hok h
              exact wpT_first hPn hi (Region.noSelect_spec hsel) fuel listed pend.T a w hcl (Region.free_spec hi hfree) hir hy trivial hok
                (wpT_mono _ _ _ _ _ _ (le_true i pend.T) this)
            · have hok' : Pend.T ((i, p, l) :: pend) |>.ok w := fun x hx => by
                simp only [Pend.T, List.map_cons] at hx
                rcases List.mem_cons.1 hx with rfl | hx
                · exact hl
                · exact hok x hx
              have := ih _ _ _ _ _ (hcl.step hir) hag' (frPut hi) hok' h
              exact wpT_first hPn hi (Region.noSelect_spec hsel) fuel listed pend.T a w hcl (Region.free_spec hi hfree) hir hy hl hok this
          · obtain ⟨e'', v, hy, hag'', h⟩ := sxPure_sound hag h
            obtain ⟨e', hag', h⟩ := splitB_sound hag'' h
            have := ih _ _ _ _ _ (hcl.step hir) hag' (frPut hi) hok h
            exact wpT_first hPn hi (Region.noSelect_spec hsel) fuel listed pend.T a w hcl (Region.free_spec hi hfree) hir hy trivial hok
                (wpT_mono _ _ _ _ _ _ (le_true i pend.T) this)
        · exact h.elim
      · refine ⟨fun h0 => absurd h0 hne, fun j hj => ?_⟩
        have h := bothL_wp h _ (List.mem_map.2 ⟨j, hj, rfl⟩)
        split at h
        · rename_i o hj'
          refine sxOne_sound hC hag hj' h (fun e' a' w' hag' ha' hk => ?_) (fun ch w' hr => hpan ch a w' hag.defers hfr hr)
          obtain ⟨v, rfl⟩ := ha'
          rw [← Pend.T_cut]
          split at hk
          · rename_i hp
            rw [hp]
            have hok' : Pend.T [] |>.ok w' := fun x hx => by cases hx
            obtain ⟨e2, hag2, hk⟩ := splitB_sound hag' hk
            exact ⟨hok', ih _ _ _ _ _ (hcl.step hj) hag2 (frPut hj') hok' hk⟩
          · simp only [Tr.wp] at hk
            have hok' : (Pend.cut ops j pend).T.ok w' := fun x hx => by
              simp only [Pend.T, List.mem_map] at hx
              obtain ⟨y, hy, rfl⟩ := hx
              exact hk.1 y.2 (by simp only [Pend.facts, List.mem_map]; exact ⟨y, hy, rfl⟩)
            obtain ⟨e2, hag2, hk2⟩ := splitB_sound hag' hk.2
            exact ⟨hok', ih _ _ _ _ _ (hcl.step hj) hag2 (frPut hj') hok' hk2⟩
        · exact h.elim

end
end Go.Proofs.YthfcneahnldgnaaGreat.Vk
