/- Vk, part 6b: functions that defer a call; deferred functions that recover. -/
import Derived.Test.YthfcneahnldgnaaGreatVkFn
namespace Go.Proofs.YthfcneahnldgnaaGreat.Vk
open Go
set_option linter.unusedSimpArgs false
set_option linter.unusedVariables false

def cellsR (P : Program) (e : Env) : List ResultVar → Option (List (Addr × Kd))
  | [] => some []
  | .cell x t :: r => match e x, kdOf P t, cellsR P e r with
    | some (.pointer (some a)), some k, some l => match fitsK P t k with
      | true => some ((a, k) :: l)
      | false => none
    | _, _, _ => none
  | .tmp _ :: _ => none
def resSlots : List ResultVar → List Nat
  | [] => []
  | .cell x _ :: r => x :: resSlots r
  | .tmp t :: r => t :: resSlots r
def isDefer (o : Oper) : Bool := match o.op with | .defer _ => true | _ => false
def hasD : Code → Bool
  | .region _ ops _ => ops.toList.any isDefer
  | .seq a b => hasD a || hasD b
  | .cond _ a b => hasD a || hasD b
  | .block _ c => hasD c
  | .loop c => hasD c
  | _ => false
def freeR (res : List ResultVar) (c : Code) : Bool := (resSlots res).all fun x => (writes c).all fun y => !(Nat.beq x y)
def sxOpsD (P : Program) (C : FuncId → Bool) (n : Nat) (all : List Oper) (res : List ResultVar) : List Oper → Env → (Env → Tr) → Tr
  | [], _, _ => .fail
  | o :: r, e, K => match o.op with
    | .defer c => match r, o.guard, o.dst, c.callee with
      | [], none, none, .value f => match e.ev f, evL e.ev c.args.toList, cellsR P e res with
        | some v, some as, some rs => .dfr v as.toArray rs (K e)
        | _, _, _ => .fail
      | _, _, _, _ => .fail
    | _ => sxOne P C n all false o e fun e' => sxOpsD P C n all res r e' K
/-- The tree of a body that defers one call on its way. -/
def sxS (P : Program) (C : FuncId → Bool) (n : Nat) (res : List ResultVar) : Code → An → Env → Tr
  | .seq a b, an, e => match hasD a with
    | true => match a with
      | .region _ ops false => match freeR res b with
        | true => sxOpsD P C n ops.toList res ops.toList e fun e' => sx P C n res b an.snd 0 e' (fun e2 => retT P res e2) (fun _ _ => .fail)
        | false => .fail
      | _ => .fail
    | false => match an with
      | .join _ _ _ _ => .fail
      | an => sx P C n res a an.fst 0 e (fun e' => sxS P C n res b an.snd e') (fun _ _ => .fail)
  | _, _, _ => .fail
def trOfD (P : Program) (C : FuncId → Bool) (an : An) (fn : Func) (args : List Value) : Tr :=
  match fn.body with
  | some c => match Nat.ble args.length fn.ntmps with
    | true => sxS P C fn.ntmps fn.results.toList c an (Env.ofL args)
    | false => .fail
  | none => .fail
section
variable {P : Program} {C : FuncId → Bool} {R : Ending → World → Prop} {n : Nat} {res : List ResultVar}
theorem ldsP_results {e : Env} {tmps : Array Value} : ∀ {l : List ResultVar} {rs : List (Addr × Kd)} {vs : List Value} {w : World}, cellsR P e l = some rs → (∀ x ∈ resSlots l, ∀ v, e x = some v → tmps[x]? = some v) → ldsP w rs vs →
    (l.mapM (resF tmps)).run P w = .ok vs w
  | [], rs, vs, w, h, _, hl => by
    simp [cellsR] at h; subst h
    simp only [ldsP] at hl; subst hl; rfl
  | .tmp t :: r, rs, vs, w, h, _, _ => by simp [cellsR] at h
  | .cell x t :: r, rs, vs, w, h, ht, hl => by
    simp only [cellsR] at h
    split at h
    · rename_i a k l hx hk hr
      split at h
      · rename_i hf
        cases h
        obtain ⟨y, us, h1, rfl, h2⟩ := hl
        have := ht x (by simp [resSlots]) _ hx
        have ih := ldsP_results hr (fun z hz v hv => ht z (by simp [resSlots, hz]) v hv) h2
        have hrun := run_loadVar_kd (P := P) hk hf h1
        simp [List.mapM_cons, resF, this, ih, asAddr_some, hrun]
      · cases h
    · cases h
theorem results_ldsP {fn : Func} {e : Env} {tmps : Array Value} {rs : List (Addr × Kd)} {vs : List Value} {w : World} (h : cellsR P e fn.results.toList = some rs) (ht : ∀ x ∈ resSlots fn.results.toList, ∀ v, e x = some v → tmps[x]? = some v) (hl : ldsP w rs vs) :
    (results fn tmps).run P w = .ok (tupV vs) w := by
  have hr := ldsP_results h ht hl
  have hm : (fn.results.mapM (resF tmps)).run P w = .ok vs.toArray w := by
    rw [Array.mapM_eq_mapM_toList]
    simp [hr]
  rw [results_eq, Sem.run_bind, hm, Result.andThen_ok]
  rcases vs with _ | ⟨v, _ | ⟨v2, r⟩⟩
  · rfl
  · rfl
  · rw [dif_neg (by simp)]; rfl
theorem leaves_of {fn : Func} {e : Env} {tmps : Array Value} {rs : List (Addr × Kd)} (h : cellsR P e fn.results.toList = some rs) (ht : ∀ x ∈ resSlots fn.results.toList, ∀ v, e x = some v → tmps[x]? = some v) :
    ∀ {u : FrameMode} {w : World}, LeavesT R rs u w → Leaves P fn tmps R [] u w
  | .returning, w, ⟨vs, h1, h2⟩ => ⟨_, results_ldsP h ht h1, h2⟩
  | .panicking ch, w, h => h
  | .run, w, h => h
theorem leaves_after {fn : Func} {e : Env} {tmps : Array Value} {rs : List (Addr × Kd)} {g : FuncId} {first caps as : Array Value} {u : FrameMode} {w : World} (hu : u ≠ .run) (h : cellsR P e fn.results.toList = some rs) (ht : ∀ x ∈ resSlots fn.results.toList, ∀ v, e x = some v → tmps[x]? = some v)
    (hg : ∀ args w, (callFunc g args).run P w = .ok (.enter g args) w) (hc : CallsD P g (first ++ as ++ caps) u w (AfterD R rs)) : Leaves P fn tmps R [{ target := .fn (.func g) caps, args := first ++ as }] u w := by
  refine ⟨hu, .func g, caps, g, first ++ as ++ caps, rfl, hg _ _, hc.mono fun e u' w' h' => ?_⟩
  cases e with
  | returned v => exact leaves_of h ht h'
  | panicked ch => exact leaves_of h ht h'
  | outgrown => exact h'.elim
theorem sxOpsD_sound {ops : Array Oper} {Q : Exit → Act → World → Prop} (hC : Callable P C) (hpan : ∀ ch a' w', a'.defers = [] → R (.panicked ch) w' → Q (.panic ch) a' w') :
    ∀ (l : List Oper) (k : Nat) (e : Env) (a : Act) (w : World) (K : Env → Tr) (Ks : Conts), (∀ j, l[j]? = ops[k + j]?) → Agree [] n e a → (sxOpsD P C n ops.toList res l e K).wp P R Ks w →
      (∀ (e' : Env) (a' : Act) (w' : World) (g : FuncId) (first caps as : Array Value) (rs : List (Addr × Kd)), Agree [{ target := .fn (.func g) caps, args := first ++ as }] n e' a' → cellsR P e' res = some rs → (∀ args w, (callFunc g args).run P w = .ok (.enter g args) w) →
        (K e').wp P (LeaveR P g (first ++ as ++ caps) rs R) Ks w' → Q .normal a' w') → wpOps P ops Q (List.range' k l.length) a w
  | [], k, e, a, w, K, Ks, _, hag, h, hK => h.elim
  | o :: l, k, e, a, w, K, Ks, hl, hag, h, hK => by
    have ho : ops[k]? = some o := by simpa using (hl 0).symm
    rw [List.length_cons, List.range'_succ, wpOps_cons]
    unfold sxOpsD at h
    split at h
    · rename_i c hop
      split at h
      · rename_i f hgd hdst hcal
        split at h
        · rename_i v as rs hv has hrs
          simp only [Tr.wp] at h
          obtain ⟨g, first, caps, rfl, hg, h⟩ := h
          unfold wpOp
          simp only [ho]
          rw [if_pos (by simp [Region.wanted, hgd])]
          refine .inl ?_
          unfold Oper.wp
          have hargs : c.args.map a.eval = as.toArray := hag.evLA has
          have hx : (execOp a.eval o).run P w = .ok (.defer { target := .fn (.func g) caps, args := first ++ as.toArray }) w := by
            simp [execOp, hop, resolve, hcal, hag.ev hv, hargs, Deferred.ofValue]
          rw [hx]
          simp only [Oper.upon, hdst]
          refine hK e _ w g first caps as.toArray rs ⟨?_, ?_, ?_⟩ hrs hg h
          · exact hag.size
          · show _ :: a.defers = _
            rw [hag.defers]
          · exact hag.get
        · exact h.elim
      · exact h.elim
    · refine sxOne_sound hC hag ho h (fun e' a' w' hag' ha' hk => ?_) (fun ch w' hr => hpan ch a w' hag.defers hr)
      obtain ⟨v, rfl⟩ := ha'
      exact sxOpsD_sound hC hpan l (k + 1) e' _ w' K Ks (fun j => by have := hl (j + 1); simpa [Nat.add_assoc, Nat.add_comm 1 j] using this) hag' hk hK
theorem sxS_sound {fn : Func} (hC : Callable P C) (hm : P.follows .mixedOrders = true) : ∀ (c : Code) (an : An) (e : Env) (a : Act) (w : World) (Ks : Conts), Agree [] n e a → (sxS P C n fn.results.toList c an e).wp P R Ks w → c.wp P (bodyPostD P fn R) a w := by
  have hpan : ∀ ch a' w', a'.defers = [] → R (.panicked ch) w' → bodyPostD P fn R (.panic ch) a' w' := fun ch a' w' hd hr => by
    simp only [bodyPostD, hd, Leaves]; exact hr
  intro c
  induction c with
  | seq x y ihx ihy =>
    intro an e a w Ks hag h
    refine wp_seq ?_
    simp only [sxS] at h
    split at h
    · split at h
      · rename_i id ops _
        split at h
        · rename_i hfree
          refine wp_region ?_
          rw [List.range_eq_range', ← Array.length_toList]
          refine sxOpsD_sound (Q := Exit.then (y.wp P (bodyPostD P fn R)) (bodyPostD P fn R)) hC hpan ops.toList 0 e a w _ Ks (by simp) hag h (fun e' a' w' g first caps as rs hag' hrs hg hk => ?_)
          show y.wp P (bodyPostD P fn R) a' w'
          have hts : ∀ a2, Fr (writes y) a' a2 → ∀ z ∈ resSlots fn.results.toList, ∀ v, e' z = some v → a2.tmps[z]? = some v := fun a2 hf z hz v hv => by
            have hnz : z ∉ writes y := fun hzy => by
              unfold freeR at hfree
              have h1 := List.all_eq_true.1 hfree z hz
              have h2 := List.all_eq_true.1 h1 z hzy
              rw [Nat.beq_refl] at h2; cases h2
            rw [hf z hnz]; exact hag'.get z v hv
          refine sx_sound (S := writes y) (a0 := a') hC hm y an.snd 0 e' a' w' Ks (fun e2 => retT P fn.results.toList e2) (fun _ _ => .fail) (bodyPostD P fn R) ⟨fun ch a2 w2 hd hf hr => ?_, fun e2 a2 w2 Ks2 hag2 hf hr => ?_⟩ (fun i hi => hi) (Fr.refl _ _) hag' hk (fun Ks2 e2 a2 w2 hb hag2 hf hr => ?_) (fun _ _ _ _ _ _ _ _ hr => hr.elim)
          · simp only [bodyPostD, hd]
            exact leaves_after (by simp) hrs (hts a2 hf) hg hr
          · obtain ⟨v, _, hr⟩ := retT_sound rfl hag2 hr
            simp only [bodyPostD, hag2.defers]
            exact leaves_after (by simp) hrs (hts a2 hf) hg hr
          · obtain ⟨v, _, hr⟩ := retT_sound rfl hag2 hr
            simp only [bodyPostD, hag2.defers]
            exact leaves_after (by simp) hrs (hts a2 hf) hg hr
        · exact h.elim
      · exact h.elim
    · split at h
      · exact h.elim
      · refine sx_sound (D := []) (S := writes x) (a0 := a) hC hm x _ 0 e a w Ks _ (fun _ _ => .fail) (Exit.then (y.wp P (bodyPostD P fn R)) (bodyPostD P fn R)) ⟨fun ch a2 w2 hd hf hr => hpan ch a2 w2 hd hr, fun e2 a2 w2 Ks2 hag2 hf hr => ?_⟩ (fun i hi => hi) (Fr.refl _ _) hag h (fun Ks2 e2 a2 w2 hb hag2 hf hr => ?_) (fun _ _ _ _ _ _ _ _ hr => hr.elim)
        · obtain ⟨v, hrun, hr⟩ := retT_sound rfl hag2 hr
          show Leaves P fn a2.tmps R a2.defers .returning w2
          rw [hag2.defers]
          exact ⟨v, hrun, hr⟩
        · exact ihy _ e2 a2 w2 Ks2 hag2 hr
  | _ => intro an e a w Ks hag h; exact h.elim
/-- **What a tree says of a function that defers a call.** -/
theorem calls_of_trD (hC : Callable P C) (hm : P.follows .mixedOrders = true) {f : FuncId} {fn : Func} {an : An} {args : List Value} {w : World} (hf : P.funcs[f]? = some fn)
    (h : (trOfD P C an fn args).wp P R Conts.none w) : Calls P f args.toArray w R := by
  unfold trOfD at h
  split at h
  · rename_i c hb
    split at h
    · rename_i hle
      have hle' := Nat.le_of_ble_eq_true hle
      refine calls_of_wp_defers hf hb ?_
      refine sxS_sound hC hm c an _ _ w Conts.none ⟨by simp; omega, rfl, fun i v hi => ?_⟩ h
      simp only [Env.ofL] at hi
      have hlt : i < args.length := by
        rcases Nat.lt_or_ge i args.length with h' | h'
        · exact h'
        · rw [List.getElem?_eq_none h'] at hi; cases hi
      rw [Array.getElem?_append_left (by simpa using hlt)]
      simpa using hi
    · exact h.elim
  · exact h.elim

/-! ### A deferred function that recovers -/
/-- What recover() gives, and how the leaving frame stands then. -/
def recV : FrameMode → Value × FrameMode
  | .panicking ({ v, recovered := false, goexit := false } :: older) => (v, .panicking ({ v, recovered := true } :: older))
  | u => (.nilIface, u)
/-- The tree of what stands behind the recover, given what it gave. -/
def trOfR (P : Program) (C : FuncId → Bool) (an : An) (fn : Func) (args : List Value) (v : Value) : Tr :=
  match fn.body with
  | some (.seq (.region _ ops false) c) => match ops.toList with
    | [o] => match o.op, o.guard, o.dst with
      | .call cl, none, some d => match cl.callee, cl.args.toList with
        | .builtin .recover, [] => match Nat.ble args.length fn.ntmps, Nat.blt d fn.ntmps with
          | true, true => sx P C fn.ntmps fn.results.toList c an 0 ((Env.ofL args).set d v) (fun e => retT P fn.results.toList e) (fun _ _ => .fail)
          | _, _ => .fail
        | _, _ => .fail
      | _, _, _ => .fail
    | _ => .fail
  | _ => .fail
theorem recoverD_recV (c0 : Frame) (cs : List Frame) : (match recoverD (c0 :: cs) with | some (v, cs') => v = (recV c0.mode).1 ∧ cs' = { c0 with mode := (recV c0.mode).2 } :: cs | none => (recV c0.mode).1 = .nilIface ∧ (recV c0.mode).2 = c0.mode) := by
  cases hm : c0.mode with
  | run => simp [recoverD, recV, hm]
  | returning => simp [recoverD, recV, hm]
  | panicking l =>
    cases l with
    | nil => simp [recoverD, recV, hm]
    | cons p older =>
      obtain ⟨v, r, g⟩ := p
      cases r <;> cases g <;> simp [recoverD, recV, hm]
theorem callsD_of_trR (hC : Callable P C) (hm : P.follows .mixedOrders = true) {f : FuncId} {fn : Func} {an : An} {args : List Value} {u : FrameMode} {w : World} {RD : Ending → FrameMode → World → Prop} (hf : P.funcs[f]? = some fn)
    (h : (trOfR P C an fn args (recV u).1).wp P (fun e w' => RD e (recV u).2 w') Conts.none w) : CallsD P f args.toArray u w RD := by
  unfold trOfR at h
  split at h
  case h_2 => exact h.elim
  rename_i id ops c hb
  split at h
  case h_2 => exact h.elim
  rename_i o hops
  split at h
  case h_2 => exact h.elim
  rename_i cl d hop hgd hdst
  split at h
  case h_2 => exact h.elim
  rename_i hcal hargs
  split at h
  case h_2 => exact h.elim
  rename_i hle hlt
  refine callsD_of_wpS hf hb fun c0 cs hu => ?_
  subst hu
  have hops' : ops = #[o] := by apply Array.ext'; simpa using hops
  subst hops'
  refine wpS_seq (wpS_region ?_)
  have hle' := Nat.le_of_ble_eq_true hle
  have hlt' : d < fn.ntmps := Nat.le_of_ble_eq_true hlt
  have hcl : cl.args = #[] := by apply Array.ext'; simpa using hargs
  have hx : ∀ (a : Act) (w : World), (execOp a.eval o).run P w = .ok .recover w := fun a w => by
    simp [execOp, hop, resolve, hcal, hcl, invoke, builtin]
  have hag : Agree [] fn.ntmps (Env.ofL args) ⟨args.toArray ++ Array.replicate (fn.ntmps - args.toArray.size) undef, []⟩ := by
    refine ⟨by simp; omega, rfl, fun i v hi => ?_⟩
    simp only [Env.ofL] at hi
    have hlt : i < args.length := by
      rcases Nat.lt_or_ge i args.length with h' | h'
      · exact h'
      · rw [List.getElem?_eq_none h'] at hi; cases hi
    rw [Array.getElem?_append_left (by simpa using hlt)]
    simpa using hi
  generalize ha : (⟨args.toArray ++ Array.replicate (fn.ntmps - args.toArray.size) undef, []⟩ : Act) = a at hag
  have hag2 : Agree [] fn.ntmps ((Env.ofL args).set d (recV c0.mode).1) (a.put o.dst (recV c0.mode).1) := by
    rw [hdst]
    exact hag.put (dst := some d) (by simpa [okDst] using hlt')
  have hw : Region.wanted o (yielded #[o] a.tmps) = true := by simp [Region.wanted, hgd]
  have hrec := recoverD_recV c0 cs
  have fin : ∀ (a' : Act) (w' : World) (v : Value), a'.defers = [] → (results fn a'.tmps).run P w' = .ok v w' → RD (.returned v) (recV c0.mode).2 w' → a'.defers = [] ∧ ∃ u', ({ c0 with mode := (recV c0.mode).2 } : Frame) :: cs = { c0 with mode := u' } :: cs ∧ ∃ v, (results fn a'.tmps).run P w' = .ok v w' ∧ RD (.returned v) u' w' :=
    fun a' w' v h1 h2 h3 => ⟨h1, _, rfl, v, h2, h3⟩
  have main : c.wp P (fun e a' w' => bodyPostS P fn c0 cs RD e a' ({ c0 with mode := (recV c0.mode).2 } :: cs) w') (a.put o.dst (recV c0.mode).1) w := by
    refine sx_sound (D := []) (S := writes c) (a0 := a.put o.dst (recV c0.mode).1) hC hm c an 0 _ _ w Conts.none _ _ _ ⟨fun ch a2 w2 hd hf hr => ?_, fun e2 a2 w2 Ks2 hag3 hf hr => ?_⟩ (fun i hi => hi) (Fr.refl _ _) hag2 h (fun Ks2 e2 a2 w2 hb hag3 hf hr => ?_) (fun _ _ _ _ _ _ _ _ hr => hr.elim)
    · exact ⟨hd, _, rfl, hr⟩
    · obtain ⟨v, h1, h2⟩ := retT_sound rfl hag3 hr
      exact fin a2 w2 v hag3.defers h1 h2
    · obtain ⟨v, h1, h2⟩ := retT_sound rfl hag3 hr
      exact fin a2 w2 v hag3.defers h1 h2
  simp only [List.size_toArray, List.length_singleton, List.range_succ, List.range_zero, List.nil_append, wpOpsS]
  rw [show (#[o] : Array Oper)[0]? = some o from rfl]
  dsimp only
  rw [if_pos hw, hx]
  dsimp only
  split at hrec
  · rename_i v cs' hv
    obtain ⟨rfl, rfl⟩ := hrec
    rw [hv]
    exact wpS_of_wp main
  · rename_i hv
    rw [hv]
    obtain ⟨e1, e2⟩ := hrec
    dsimp only
    rw [e1, e2] at main
    exact wpS_of_wp main
end
end Go.Proofs.YthfcneahnldgnaaGreat.Vk
