/- Vk, part 6: the tree of a whole function. -/
import Derived.Test.YthfcneahnldgnaaGreatVkAny
namespace Go.Proofs.YthfcneahnldgnaaGreat.Vk
open Go
variable {D : List Deferred}
set_option linter.unusedSimpArgs false
set_option linter.unusedVariables false

/-- Where the ways of a body meet again and which loops it has, with the slots that are carried over. -/
inductive An where
  | o
  | seq (a b : An)
  | join (sl : List Nat) (ks : List Kd) (a b : An)
  | loop (sl : List Nat) (ks : List Kd) (a : An)
def An.fst : An → An
  | .seq a _ => a
  | .join _ _ a _ => a
  | .loop _ _ a => a
  | .o => .o
def An.snd : An → An
  | .seq _ b => b
  | .join _ _ _ b => b
  | _ => .o

def writes : Code → List Nat
  | .region _ ops _ => dstsL ops.toList
  | .seq a b => writes a ++ writes b
  | .cond _ a b => writes a ++ writes b
  | .block _ c => writes c
  | .loop c => writes c
  | _ => []

def Sc.inv : (s : Sc) → Value → Option s.D
  | .int k, .int k' n => match decide (k = k') with | true => some n | false => none
  | .bool, .bool b => some b
  | .str, .string s => some s
  | .ptr, .pointer p => some p
  | .adr, .pointer (some a) => some a
  | .slc, .slice a n c => some ⟨a, n, c⟩
  | .map, .map r => some r
  | .val, v => some v
  | _, _ => none
def invL : (l : List Sc) → List Value → Option (DL l)
  | [], [] => some ()
  | s :: r, v :: vs => match s.inv v, invL r vs with | some x, some y => some (x, y) | _, _ => none
  | _, _ => none
def Kd.inv : (k : Kd) → Value → Option k.D
  | .sc s, v => s.inv v
  | .agg l, .agg cs => invL l cs.toList
  | _, _ => none
def invT : (l : List Kd) → List Value → Option (DT l)
  | [], [] => some ()
  | k :: r, v :: vs => match k.inv v, invT r vs with | some x, some y => some (x, y) | _, _ => none
  | _, _ => none

def jmpT (l : Nat) (sl : List Nat) (e : Env) : Tr := match optL e sl with | some vs => .jmp l vs | none => .fail

def resT (P : Program) : List ResultVar → Env → (List Value → Tr) → Tr
  | [], _, K => K []
  | .tmp t :: r, e, K => match e t with | some v => resT P r e fun vs => K (v :: vs) | none => .fail
  | .cell x t :: r, e, K => match e x, kdOf P t with
    | some (.pointer p), some k => match fitsK P t k with
      | true => .nil p fun a => .ld a k fun y => resT P r e fun vs => K (k.v y :: vs)
      | false => .fail
    | _, _ => .fail
def retT (P : Program) (res : List ResultVar) (e : Env) : Tr := resT P res e fun vs => match vs with
  | [v] => .ret v
  | vs => .ret (.tuple vs.toArray)

def sx (P : Program) (C : FuncId → Bool) (n : Nat) (res : List ResultVar) : Code → An → Nat → Env → (Env → Tr) → (Nat → Env → Tr) → Tr
  | .skip, _, _, e, K, _ => K e
  | .region _ ops false, _, _, e, K, _ => sxOps P C n ops.toList ops.toList e K
  | .region _ ops true, _, _, e, K, _ => match Region.noSelect ops with
    | true => .tick (sxAny P C n ops ops.size (Array.replicate ops.size false) [] e K)
    | false => .fail
  | .seq a b, an, l, e, K, X => match an with
    | .join sl ks x y => .bind l ks (sx P C n res a x (l + 1) e (fun e' => jmpT l sl e') X) fun s => sx P C n res b y l ((e.forget (writes a)).putL sl (vT ks s)) K X
    | an => sx P C n res a an.fst l e (fun e' => sx P C n res b an.snd l e' K X) X
  | .cond c a b, an, l, e, K, X => match e.ev c with
    | some (.bool t) => .cond t (sx P C n res a an.fst l e K X) (sx P C n res b an.snd l e K X)
    | _ => .fail
  | .block id c, an, l, e, K, X => sx P C n res c an.fst l e K fun id' e' => match Nat.beq id' id with | true => K e' | false => X id' e'
  | .loop c, an, l, e, _, X => match an with
    | .loop sl ks x => match optL e sl with
      | some vs => match invT ks vs with
        | some s0 => .loop l ks s0 fun s => sx P C n res c x (l + 1) ((e.forget (writes c)).putL sl (vT ks s)) (fun e' => jmpT l sl e') X
        | none => .fail
      | none => .fail
    | _ => .fail
  | .exit id, _, _, e, _, X => X id e
  | .ret, _, _, e, _, _ => retT P res e
  | _, _, _, _, _, _ => .fail

section
variable {P : Program} {C : FuncId → Bool} {R : Ending → World → Prop} {n : Nat} {res : List ResultVar}

theorem Sc.inv_v : ∀ (s : Sc) (v : Value) (x : s.D), s.inv v = some x → s.v x = v := by
  intro s v x h
  cases s <;> cases v <;> simp only [Sc.inv] at h <;> first
    | cases h; rfl
    | (split at h
       · rename_i hk
         have := of_decide_eq_true hk
         subst this
         cases h; rfl
       · cases h)
    | (rename_i p; cases p <;> cases h; rfl)
    | cases h

theorem invL_v : ∀ (l : List Sc) (vs : List Value) (x : DL l), invL l vs = some x → vL l x = vs
  | [], [], _, _ => rfl
  | [], _ :: _, _, h => by cases h
  | _ :: _, [], _, h => by cases h
  | s :: r, v :: vs, x, h => by
    simp only [invL] at h
    split at h
    · rename_i y z hy hz
      cases h
      simp only [vL]
      rw [Sc.inv_v s v y hy, invL_v r vs z hz]
    · cases h

theorem Kd.inv_v (k : Kd) (v : Value) (x : k.D) (h : k.inv v = some x) : k.v x = v := by
  cases k with
  | sc s => exact Sc.inv_v s v x h
  | agg l =>
    cases v <;> simp only [Kd.inv] at h <;> first | cases h | skip
    simp only [Kd.v]
    rw [invL_v l _ x h]

theorem invT_v : ∀ (l : List Kd) (vs : List Value) (x : DT l), invT l vs = some x → vT l x = vs
  | [], [], _, _ => rfl
  | [], _ :: _, _, h => by cases h
  | _ :: _, [], _, h => by cases h
  | k :: r, v :: vs, x, h => by
    simp only [invT] at h
    split at h
    · rename_i y z hy hz
      cases h
      simp only [vT]
      rw [Kd.inv_v k v y hy, invT_v r vs z hz]
    · cases h

theorem Agree.forget {e : Env} {a a' : Act} {S : List Nat} (h : Agree D n e a) (hf : Fr S a a') (hs : a'.tmps.size = n) (hd : a'.defers = D) : Agree D n (e.forget S) a' :=
  ⟨hs, hd, fun i v hi => by
    unfold Env.forget at hi
    cases hb : S.any (Nat.beq i ·) with
    | true => rw [hb] at hi; cases hi
    | false =>
      rw [hb] at hi
      have hns : i ∉ S := fun hm => by
        have : S.any (Nat.beq i ·) = true := List.any_eq_true.2 ⟨i, hm, Nat.beq_refl i⟩
        rw [hb] at this; cases this
      rw [hf i hns]
      exact h.get i v hi⟩

theorem Agree.putL {e' : Env} {a : Act} (h' : Agree D n e' a) : ∀ {sl : List Nat} {vs : List Value} {e : Env}, Agree D n e a → optL e' sl = some vs → Agree D n (e.putL sl vs) a
  | [], vs, e, h, hv => by simp [optL] at hv; subst hv; exact h
  | d :: sl, vs, e, h, hv => by
    simp only [optL] at hv
    split at hv
    · rename_i v hd
      split at hv
      · rename_i us hu
        cases hv
        exact (Agree.putL h' h hu).set (h'.get d v hd)
      · cases hv
    · cases hv

def Below (l : Nat) (Ks Ks' : Conts) : Prop := ∀ i, i < l → Ks' i = Ks i
theorem Below.refl (l : Nat) (Ks : Conts) : Below l Ks Ks := fun _ _ => rfl
theorem Below.trans {l : Nat} {A B C : Conts} (h : Below l A B) (h' : Below l B C) : Below l A C := fun i hi => (h' i hi).trans (h i hi)
theorem Below.of_set {l : Nat} {Ks Ks' : Conts} {J : Cont} (h : Below (l + 1) (Ks.set l J) Ks') : Below l Ks Ks' := fun i hi => by
  rw [h i (by omega)]
  unfold Conts.set
  cases hb : Nat.beq i l with
  | true => have := Nat.eq_of_beq_eq_true hb; omega
  | false => rfl
theorem Below.at_set {l : Nat} {Ks Ks' : Conts} {J : Cont} (h : Below (l + 1) (Ks.set l J) Ks') : Ks' l = J := by
  rw [h l (by omega)]
  unfold Conts.set
  rw [Nat.beq_refl]
  rfl

theorem jmpT_wp {l : Nat} {sl : List Nat} {e : Env} {Ks Ks' : Conts} {J : Cont} {w : World} (hb : Below (l + 1) (Ks.set l J) Ks') (h : (jmpT l sl e).wp P R Ks' w) :
    ∃ vs, optL e sl = some vs ∧ J vs w := by
  unfold jmpT at h
  split at h
  · rename_i vs hv
    refine ⟨vs, hv, ?_⟩
    simp only [Tr.wp] at h
    rw [hb.at_set] at h
    exact h
  · exact h.elim

theorem asAddr_some (p : Addr) (w : World) : (asAddr (.pointer (some p))).run P w = .ok p w := rfl

def resF (tmps : Array Value) : ResultVar → Sem Value
  | .tmp t => pure (tmps.getD t undef)
  | .cell a t => do loadVar t (← asAddr (tmps.getD a undef))

theorem resT_sound {e : Env} {a : Act} {Ks : Conts} {w : World} (hag : Agree D n e a) : ∀ {l : List ResultVar} {K : List Value → Tr}, (resT P l e K).wp P R Ks w →
    ∃ vs : List Value, (l.mapM (resF a.tmps)).run P w = .ok vs w ∧ (K vs).wp P R Ks w
  | [], K, h => ⟨[], rfl, h⟩
  | .tmp t :: r, K, h => by
    simp only [resT] at h
    split at h
    · rename_i v hv
      obtain ⟨vs, hr, hk⟩ := resT_sound hag h
      have := hag.get _ _ hv
      refine ⟨v :: vs, ?_, hk⟩
      simp [List.mapM_cons, resF, this, hr]
    · exact h.elim
  | .cell x t :: r, K, h => by
    simp only [resT] at h
    split at h
    · rename_i p k hv hkd
      split at h
      · rename_i hf
        rw [nil_wp] at h
        obtain ⟨b, rfl, y, hl, h⟩ := h
        obtain ⟨vs, hr, hk⟩ := resT_sound hag h
        have := hag.get _ _ hv
        refine ⟨k.v y :: vs, ?_, hk⟩
        have hrun := run_loadVar_kd (P := P) hkd hf hl
        simp [List.mapM_cons, resF, this, hr, asAddr_some, hrun]
      · exact h.elim
    · exact h.elim

theorem results_eq (fn : Func) (tmps : Array Value) : results fn tmps = ((fn.results.mapM (resF tmps)) >>= fun vs => pure (if h : vs.size = 1 then vs[0] else Value.tuple vs)) := by
  unfold results
  congr 1

theorem retT_sound {fn : Func} {e : Env} {a : Act} {Ks : Conts} {w : World} (hres : fn.results.toList = res) (hag : Agree D n e a) (h : (retT P res e).wp P R Ks w) :
    ∃ v, (results fn a.tmps).run P w = .ok v w ∧ R (.returned v) w := by
  obtain ⟨vs, hr, hk⟩ := resT_sound hag h
  rw [← hres] at hr
  have hm : (fn.results.mapM (resF a.tmps)).run P w = .ok vs.toArray w := by
    rw [Array.mapM_eq_mapM_toList]
    simp [hr]
  rw [results_eq, Sem.run_bind, hm, Result.andThen_ok]
  split at hk
  · exact ⟨_, rfl, hk⟩
  · rename_i hne
    refine ⟨_, ?_, hk⟩
    rw [dif_neg (fun h1 => by
      have : vs.length = 1 := by simpa using h1
      obtain ⟨v, rfl⟩ := List.length_eq_one_iff.1 this
      exact hne v rfl)]
    rfl

structure Post (D : List Deferred) (S : List Nat) (a0 : Act) (P : Program) (R : Ending → World → Prop) (n : Nat) (res : List ResultVar) (Q : Exit → Act → World → Prop) : Prop where
  pan : ∀ ch a w, a.defers = D → Fr S a0 a → R (.panicked ch) w → Q (.panic ch) a w
  ret : ∀ e a w Ks, Agree D n e a → Fr S a0 a → (retT P res e).wp P R Ks w → Q .ret a w

theorem Post.then {Q : Exit → Act → World → Prop} {S : List Nat} {a0 : Act} (hQ : Post D S a0 P R n res Q) (next : Act → World → Prop) : Post D S a0 P R n res (Exit.then next Q) :=
  ⟨fun ch a w hd hf hr => hQ.pan ch a w hd hf hr, fun e a w Ks hag hf h => hQ.ret e a w Ks hag hf h⟩
theorem Post.block {Q : Exit → Act → World → Prop} {S : List Nat} {a0 : Act} (hQ : Post D S a0 P R n res Q) (id : Nat) : Post D S a0 P R n res (Exit.inBlock id Q) :=
  ⟨fun ch a w hd hf hr => hQ.pan ch a w hd hf hr, fun e a w Ks hag hf h => hQ.ret e a w Ks hag hf h⟩

theorem sx_sound {S : List Nat} {a0 : Act} (hC : Callable P C) (hm : P.follows .mixedOrders = true) :
    ∀ (c : Code) (an : An) (l : Nat) (e : Env) (a : Act) (w : World) (Ks : Conts) (K : Env → Tr) (X : Nat → Env → Tr) (Q : Exit → Act → World → Prop), Post D S a0 P R n res Q → (∀ i ∈ writes c, i ∈ S) → Fr S a0 a → Agree D n e a →
      (sx P C n res c an l e K X).wp P R Ks w →
      (∀ Ks' e' a' w', Below l Ks Ks' → Agree D n e' a' → Fr (writes c) a a' → (K e').wp P R Ks' w' → Q .normal a' w') →
      (∀ Ks' id e' a' w', Below l Ks Ks' → Agree D n e' a' → Fr (writes c) a a' → (X id e').wp P R Ks' w' → Q (.exit id) a' w') → c.wp P Q a w := by
  intro c
  induction c with
  | skip => intro an l e a w Ks K X Q hQ hS h0 hag h hK hX; exact wp_skip (hK Ks e a w (Below.refl _ _) hag (Fr.refl _ _) h)
  | region id ops draw =>
    intro an l e a w Ks K X Q hQ hS h0 hag h hK hX
    cases draw with
    | false =>
      refine wp_region ?_
      rw [List.range_eq_range', ← Array.length_toList]
      exact sxOps_sound hC ops.toList 0 e a w K (fun ch a' w' hd hf hr => hQ.pan ch a' w' hd (h0.trans (hf.mono hS)) hr) (by simp) hag h (fun e' a' w' h1 h2 h3 => hK Ks e' a' w' (Below.refl _ _) h1 h2 h3)
    | true =>
      simp only [sx] at h
      split at h
      · rename_i hs
        simp only [Tr.wp] at h
        have hcl : Closed ops (Array.replicate ops.size false) := fun j o ho hl' => by
          rcases Nat.lt_or_ge j ops.size with h' | h'
          · simp [h'] at hl'
          · simp [Nat.not_lt.2 h'] at hl'
        have hbl : Blind ops (fun ch a' w' => a'.defers = D ∧ Fr (dstsL ops.toList) a a' ∧ R (.panicked ch) w') := fun ch a' i o v w' hi ⟨g1, g2, g3⟩ => by
          refine ⟨by cases hd : o.dst <;> rw [hd] at g1 <;> exact g1, fun k hk => ?_, g3⟩
          rw [← g2 k hk, tmps_put]
          intro hd
          exact hk (mem_dstsL hi hd)
        have := sxAny_sound (a0 := a) hbl (fun ch a' w' g1 g2 g3 => ⟨g1, g2, g3⟩) hC hs ops.size (Array.replicate ops.size false) [] e a w.drew hcl hag (Fr.refl _ _) (fun x hx => by cases hx) h
        refine wp_mono (wp_region_any hm (wpT_any _ _ _ _ _ this)) (fun ex a' w' hq => ?_)
        cases ex with
        | normal => obtain ⟨e', h1, h2, h3⟩ := hq; exact hK Ks e' a' w' (Below.refl _ _) h1 h2 h3
        | panic ch => obtain ⟨h1, h2, h3⟩ := hq; exact hQ.pan ch a' w' h1 (h0.trans (h2.mono hS)) h3
        | _ => exact hq.elim
      · exact h.elim
  | seq x y ihx ihy =>
    intro an l e a w Ks K X Q hQ hS h0 hag h hK hX
    have hSx : ∀ i ∈ writes x, i ∈ S := fun i hi => hS i (by simp [writes, hi])
    have hSy : ∀ i ∈ writes y, i ∈ S := fun i hi => hS i (by simp [writes, hi])
    refine wp_seq ?_
    simp only [sx] at h
    split at h
    · rename_i sl ks ax ay
      simp only [Tr.wp] at h
      refine ihx ax (l + 1) e a w _ _ X (Exit.then (y.wp P Q) Q) (hQ.then _) hSx h0 hag h (fun Ks' e' a' w' hb hag' hfr hj => ?_) (fun Ks' id e' a' w' hb hag' hfr hx => ?_)
      · obtain ⟨vs, hv, s, rfl, hk⟩ := jmpT_wp hb hj
        have hag2 := hag'.putL (hag.forget hfr hag'.size hag'.defers) hv
        refine ihy ay l _ a' w' Ks K X Q hQ hSy (h0.trans (hfr.mono hSx)) hag2 hk (fun Ks2 e2 a2 w2 hb h1 h2 h3 => hK Ks2 e2 a2 w2 hb h1 ?_ h3) (fun Ks2 id e2 a2 w2 hb h1 h2 h3 => hX Ks2 id e2 a2 w2 hb h1 ?_ h3)
        all_goals exact Fr.trans (hfr.mono fun i hi => by simp [writes, hi]) (h2.mono fun i hi => by simp [writes, hi])
      · exact hX Ks' id e' a' w' hb.of_set hag' (hfr.mono fun i hi => by simp [writes, hi]) hx
    · refine ihx _ l e a w Ks _ X (Exit.then (y.wp P Q) Q) (hQ.then _) hSx h0 hag h (fun Ks' e' a' w' hb hag' hfr hk => ?_) (fun Ks' id e' a' w' hb hag' hfr hx => ?_)
      · refine ihy _ l e' a' w' Ks' K X Q hQ hSy (h0.trans (hfr.mono hSx)) hag' hk (fun Ks2 e2 a2 w2 hb2 h1 h2 h3 => hK Ks2 e2 a2 w2 (hb.trans hb2) h1 ?_ h3) (fun Ks2 id e2 a2 w2 hb2 h1 h2 h3 => hX Ks2 id e2 a2 w2 (hb.trans hb2) h1 ?_ h3)
        all_goals exact Fr.trans (hfr.mono fun i hi => by simp [writes, hi]) (h2.mono fun i hi => by simp [writes, hi])
      · exact hX Ks' id e' a' w' hb hag' (hfr.mono fun i hi => by simp [writes, hi]) hx
  | cond c x y ihx ihy =>
    intro an l e a w Ks K X Q hQ hS h0 hag h hK hX
    simp only [sx] at h
    split at h
    · rename_i t ht
      rw [cond_wp] at h
      refine wp_cond_split (hag.ev ht) (fun htt => ?_) (fun htf => ?_)
      · exact ihx _ l e a w Ks K X Q hQ (fun i hi => hS i (by simp [writes, hi])) h0 hag (h.1 htt) (fun Ks' e' a' w' hb h1 h2 h3 => hK Ks' e' a' w' hb h1 (h2.mono fun i hi => by simp [writes, hi]) h3) (fun Ks' id e' a' w' hb h1 h2 h3 => hX Ks' id e' a' w' hb h1 (h2.mono fun i hi => by simp [writes, hi]) h3)
      · exact ihy _ l e a w Ks K X Q hQ (fun i hi => hS i (by simp [writes, hi])) h0 hag (h.2 htf) (fun Ks' e' a' w' hb h1 h2 h3 => hK Ks' e' a' w' hb h1 (h2.mono fun i hi => by simp [writes, hi]) h3) (fun Ks' id e' a' w' hb h1 h2 h3 => hX Ks' id e' a' w' hb h1 (h2.mono fun i hi => by simp [writes, hi]) h3)
    · exact h.elim
  | block id c ih =>
    intro an l e a w Ks K X Q hQ hS h0 hag h hK hX
    refine wp_block ?_
    refine ih _ l e a w Ks K _ (Exit.inBlock id Q) (hQ.block id) hS h0 hag h (fun Ks' e' a' w' hb h1 h2 h3 => hK Ks' e' a' w' hb h1 h2 h3) (fun Ks' id' e' a' w' hb h1 h2 h3 => ?_)
    simp only [Exit.inBlock]
    split at h3
    · rename_i hid
      rw [if_pos (Nat.eq_of_beq_eq_true hid)]
      exact hK Ks' e' a' w' hb h1 h2 h3
    · rename_i hid
      rw [if_neg (fun he => by subst he; rw [Nat.beq_refl] at hid; cases hid)]
      exact hX Ks' id' e' a' w' hb h1 h2 h3
  | loop c ih =>
    intro an l e a w Ks K X Q hQ hS h0 hag h hK hX
    simp only [sx] at h
    split at h
    · rename_i sl ks ax
      split at h
      · rename_i vs hv
        split at h
        · rename_i s0 hs0
          simp only [Tr.wp] at h
          obtain ⟨I, n0, hI0, hround⟩ := h
          refine wp_loop_ghost (fun m a' w' => ∃ s, I m s w' ∧ Agree D n ((e.forget (writes c)).putL sl (vT ks s)) a' ∧ Fr (writes c) a a') n0 ⟨s0, hI0, ?_, Fr.refl _ _⟩ ?_
          · rw [invT_v ks vs s0 hs0]
            exact hag.putL (hag.forget (Fr.refl _ _) hag.size hag.defers) hv
          · rintro m a' w' ⟨s, hI, hag', hfr⟩
            refine ih ax (l + 1) _ a' w' _ _ X _ (hQ.then _) hS (h0.trans (hfr.mono hS)) hag' (hround m s w' hI) (fun Ks' e' a2 w2 hb h1 h2 hj => ?_) (fun Ks' id e' a2 w2 hb h1 h2 hx => ?_)
            · obtain ⟨vs', hv', m', s', hlt, rfl, hI'⟩ := jmpT_wp hb hj
              exact ⟨m', hlt, s', hI', h1.putL (hag.forget (hfr.trans h2) h1.size h1.defers) hv', hfr.trans h2⟩
            · exact hX Ks' id e' a2 w2 hb.of_set h1 (hfr.trans h2) hx
        · exact h.elim
      · exact h.elim
    · exact h.elim
  | exit id => intro an l e a w Ks K X Q hQ hS h0 hag h hK hX; exact wp_exit (hX Ks id e a w (Below.refl _ _) hag (Fr.refl _ _) h)
  | ret => intro an l e a w Ks K X Q hQ hS h0 hag h hK hX; exact wp_ret (hQ.ret e a w Ks hag h0 h)
  | _ => intro an l e a w Ks K X Q hQ hS h0 hag h hK hX; exact h.elim

/-- A function that may be called by its number. -/
def chkF (P : Program) (f : FuncId) : Bool := match P.funcs[f]? with
  | some fn => match fn.name == "runtime.NumGoroutine" with
    | true => false
    | false => fn.body.isSome
  | none => false
def inL (l : List Nat) (f : FuncId) : Bool := l.any (Nat.beq f ·)
theorem callable_of {l : List Nat} (h : l.all (chkF P) = true) : Callable P (inL l) := fun f hf args w => by
  unfold inL at hf
  obtain ⟨g, hg, hb⟩ := List.any_eq_true.1 hf
  have : f = g := Nat.eq_of_beq_eq_true hb
  subst this
  have hc := List.all_eq_true.1 h f hg
  unfold chkF at hc
  split at hc
  · rename_i fn hfn
    split at hc
    · cases hc
    · rename_i hname
      have hb : fn.body.isNone = false := by cases hb : fn.body <;> simp [hb] at hc ⊢
      simp only [callFunc, Sem.run_bind, run_program, Result.andThen_ok, hfn, hname, hb, Bool.false_eq_true, if_false, Sem.run_pure]
  · cases hc

/-- The tree of function f at these arguments. -/
def trOf (P : Program) (C : FuncId → Bool) (an : An) (fn : Func) (args : List Value) : Tr :=
  match fn.body with
  | some c => match Nat.ble args.length fn.ntmps with
    | true => sx P C fn.ntmps fn.results.toList c an 0 (Env.ofL args) (fun e => retT P fn.results.toList e) (fun _ _ => .fail)
    | false => .fail
  | none => .fail

/-- **What a tree says of its function.** -/
theorem calls_of_tr (hC : Callable P C) (hm : P.follows .mixedOrders = true) {f : FuncId} {fn : Func} {an : An} {args : List Value} {w : World} (hf : P.funcs[f]? = some fn)
    (h : (trOf P C an fn args).wp P R Conts.none w) : Calls P f args.toArray w R := by
  unfold trOf at h
  split at h
  · rename_i c hb
    split at h
    · rename_i hle
      have hle' := Nat.le_of_ble_eq_true hle
      refine calls_of_wp hf hb ?_
      refine sx_sound (D := []) (S := writes c) hC hm c an 0 _ _ w Conts.none _ _ (bodyPost P fn R) ⟨fun ch a w hd _ hr => ⟨hd, hr⟩, fun e a w Ks hag _ h => ⟨hag.defers, retT_sound rfl hag h⟩⟩ (fun i hi => hi) (Fr.refl _ _) ?_ h ?_ ?_
      · refine ⟨by simp; omega, rfl, fun i v hi => ?_⟩
        simp only [Env.ofL] at hi
        have hlt : i < args.length := by
          rcases Nat.lt_or_ge i args.length with h' | h'
          · exact h'
          · rw [List.getElem?_eq_none h'] at hi; cases hi
        rw [Array.getElem?_append_left (by simpa using hlt)]
        simpa using hi
      · intro Ks' e' a' w' hb hag hfr hk
        exact ⟨hag.defers, retT_sound rfl hag hk⟩
      · intro Ks' id e' a' w' hb hag hfr hk
        exact hk.elim
    · exact h.elim
  · exact h.elim

end
end Go.Proofs.YthfcneahnldgnaaGreat.Vk
