/- Vk, part 8: things in memory that a call owns, each apart from the others (resources), and the steps of a tree over them. -/
import Derived.Test.YthfcneahnldgnaaGreatVkMem
namespace Go.Proofs.YthfcneahnldgnaaGreat.Vk
open Go
set_option linter.unusedSimpArgs false
set_option linter.unusedVariables false

/-! ### Reading typed values out of cells -/
def Sc.rd : (s : Sc) → Value → Option s.D
  | .int k, .int k' n => if k = k' then some n else none
  | .bool, .bool b => some b
  | .str, .string s => some s
  | .ptr, .pointer p => some p
  | .adr, .pointer (some a) => some a
  | .slc, .slice a n c => some ⟨a, n, c⟩
  | .map, .map r => some r
  | .val, v => some v
  | _, _ => none
theorem Sc.rd_v {s : Sc} {v : Value} {x : s.D} (h : s.rd v = some x) : s.v x = v := by
  cases s <;> cases v <;> simp [Sc.rd] at h <;> try (subst h; rfl)
  · obtain ⟨h1, h2⟩ := h; subst h1; subst h2; rfl
  · rename_i a; cases a <;> simp [Sc.rd] at h; subst h; rfl
def DL.rd : (l : List Sc) → List Value → Option (DL l)
  | [], _ => some ()
  | _ :: _, [] => none
  | s :: r, v :: vs => match s.rd v, DL.rd r vs with
    | some x, some y => some (x, y)
    | _, _ => none
theorem DL.rd_v : ∀ {l : List Sc} {vs : List Value} {x : DL l}, DL.rd l vs = some x → vs.take (vL l x).length = vL l x
  | [], vs, x, h => by simp [vL]
  | s :: r, [], x, h => by simp [DL.rd] at h
  | s :: r, v :: vs, x, h => by
    unfold DL.rd at h
    split at h
    · rename_i a b ha hb
      cases h
      simp only [vL, List.length_cons, List.take_succ_cons, Sc.rd_v ha, DL.rd_v hb]
    · cases h
def Kd.rd : (k : Kd) → List Value → Option k.D
  | .sc s, v :: _ => s.rd v
  | .sc _, [] => none
  | .agg l, vs => DL.rd l vs
theorem Kd.rd_v : ∀ {k : Kd} {vs : List Value} {x : k.D}, k.rd vs = some x → vs.take (k.cells x).length = k.cells x
  | .sc s, [], x, h => by simp [Kd.rd] at h
  | .sc s, v :: vs, x, h => by simp only [Kd.rd] at h; simp [Kd.cells, Sc.rd_v h]
  | .agg l, vs, x, h => DL.rd_v h

/-! ### Resources -/
structure Res where
  p : World → List Nat → Prop
  keep : ∀ {w w' : World} {F G : List Nat}, p w F → Keep G w w' → (∀ b ∈ F, b ∉ G) → p w' F
  lt : ∀ {w : World} {F : List Nat}, p w F → ∀ b ∈ F, b < w.heap.size

def Sat (w : World) : List Res → List Nat → Prop
  | [], F => F = []
  | R :: Rs, F => ∃ F1 F2, F = F1 ++ F2 ∧ (∀ b ∈ F1, b ∉ F2) ∧ R.p w F1 ∧ Sat w Rs F2
theorem Sat.keep {w w' : World} {G : List Nat} (hk : Keep G w w') : ∀ {Rs : List Res} {F : List Nat}, Sat w Rs F → (∀ b ∈ F, b ∉ G) → Sat w' Rs F
  | [], _, h, _ => h
  | R :: Rs, F, ⟨F1, F2, h1, h2, h3, h4⟩, hd => by
    subst h1
    exact ⟨F1, F2, rfl, h2, R.keep h3 hk fun b hb => hd b (by simp [hb]), Sat.keep hk h4 fun b hb => hd b (by simp [hb])⟩
theorem Sat.lt {w : World} : ∀ {Rs : List Res} {F : List Nat}, Sat w Rs F → ∀ b ∈ F, b < w.heap.size
  | [], _, h, b, hb => by subst h; simp at hb
  | R :: Rs, F, ⟨F1, F2, h1, h2, h3, h4⟩, b, hb => by
    subst h1
    simp only [List.mem_append] at hb
    rcases hb with h | h
    · exact R.lt h3 b h
    · exact Sat.lt h4 b h
theorem Sat.swap {w : World} {A B : Res} {Rs : List Res} {F : List Nat} (h : Sat w (A :: B :: Rs) F) : ∃ F', Sat w (B :: A :: Rs) F' ∧ ∀ b, b ∈ F' ↔ b ∈ F := by
  obtain ⟨F1, _, rfl, h2, h3, F2, F3, rfl, h5, h6, h7⟩ := h
  refine ⟨F2 ++ (F1 ++ F3), ⟨F2, F1 ++ F3, rfl, ?_, h6, F1, F3, rfl, ?_, h3, h7⟩, ?_⟩
  · intro b hb hc
    simp only [List.mem_append] at hc
    rcases hc with h | h
    · exact h2 b h (by simp [hb])
    · exact h5 b hb h
  · intro b hb hc; exact h2 b hb (by simp [hc])
  · intro b; simp only [List.mem_append]; constructor
    · rintro (h | h | h) <;> simp [h]
    · rintro (h | h | h) <;> simp [h]
theorem Sat.pick {w : World} : ∀ {Rs : List Res} {i : Nat} {A : Res} {F : List Nat}, Rs[i]? = some A → Sat w Rs F → ∃ F', Sat w (A :: Rs.eraseIdx i) F' ∧ ∀ b, b ∈ F' ↔ b ∈ F
  | [], i, A, F, hi, _ => by simp at hi
  | R :: Rs, 0, A, F, hi, h => by simp at hi; subst hi; exact ⟨F, h, fun _ => Iff.rfl⟩
  | R :: Rs, i + 1, A, F, hi, ⟨F1, F2, h1, h2, h3, h4⟩ => by
    subst h1
    obtain ⟨F2', h5, h6⟩ := Sat.pick (by simpa using hi) h4
    obtain ⟨F', h7, h8⟩ := Sat.swap (A := R) (B := A) (Rs := Rs.eraseIdx i) (w := w) ⟨F1, F2', rfl, fun b hb hc => h2 b hb ((h6 b).1 hc), h3, h5⟩
    exact ⟨F', by simpa using h7, fun b => by rw [h8]; simp [h6]⟩

structure St (w0 : World) (W : List Nat) (w : World) (Rs : List Res) : Prop where
  kept : Keep W w0 w
  sat : ∃ F, Sat w Rs F ∧ ∀ b ∈ F, b ∈ W ∨ w0.heap.size ≤ b

variable {w0 w w' : World} {W : List Nat} {Rs B : List Res} {A : Res}
theorem St.begin (w : World) (W : List Nat) : St w W w [] := ⟨Keep.refl _ _, [], rfl, by simp⟩
theorem St.keep (h : St w0 W w Rs) (hk : Keep [] w w') : St w0 W w' Rs := by
  obtain ⟨h1, F, h2, h3⟩ := h
  exact ⟨h1.then hk (by simp), F, h2.keep hk (by simp), h3⟩
theorem St.drew (h : St w0 W w Rs) : St w0 W w.drew Rs := h.keep (Keep.refl _ _).drew
theorem St.pick (h : St w0 W w Rs) (i : Nat) (hi : Rs[i]? = some A) : St w0 W w (A :: Rs.eraseIdx i) := by
  obtain ⟨h1, F, h2, h3⟩ := h
  obtain ⟨F', h4, h5⟩ := h2.pick hi
  exact ⟨h1, F', h4, fun b hb => h3 b ((h5 b).1 hb)⟩
theorem St.drop (h : St w0 W w (A :: B)) : St w0 W w B := by
  obtain ⟨h1, F, ⟨F1, F2, rfl, _, _, h4⟩, h3⟩ := h
  exact ⟨h1, F2, h4, fun b hb => h3 b (by simp [hb])⟩
theorem St.swap {A' : Res} (h : St w0 W w (A :: A' :: B)) : St w0 W w (A' :: A :: B) := h.pick 1 rfl
theorem St.dropAt (h : St w0 W w Rs) (i : Nat) (hi : i < Rs.length) : St w0 W w (Rs.eraseIdx i) := (h.pick i (List.getElem?_eq_getElem hi)).drop
theorem St.get (h : St w0 W w Rs) (i : Nat) (hi : Rs[i]? = some A) : ∃ F, A.p w F := by
  obtain ⟨h1, F, ⟨F1, F2, rfl, _, h4, _⟩, h3⟩ := h.pick i hi
  exact ⟨F1, h4⟩
theorem St.push {F' : List Nat} (h : St w0 W w B) (hk : Keep [] w w') (ha : A.p w' F') (hf : ∀ b ∈ F', w.heap.size ≤ b) : St w0 W w' (A :: B) := by
  obtain ⟨h1, F, h2, h3⟩ := h
  refine ⟨h1.then hk (by simp), F' ++ F, ⟨F', F, rfl, ?_, ha, h2.keep hk (by simp)⟩, ?_⟩
  · intro b hb hc
    have := h2.lt b hc
    have := hf b hb
    omega
  · intro b hb
    simp only [List.mem_append] at hb
    rcases hb with h | h
    · have := hf b h; have := h1.size; right; omega
    · exact h3 b h
/-- What stands ahead becomes another thing. -/
theorem St.upd (h : St w0 W w (A :: B)) : ∃ F, A.p w F ∧ ∀ (A' : Res) (w' : World) (F' : List Nat), Keep F w w' → A'.p w' F' → (∀ b ∈ F', b ∈ F ∨ w.heap.size ≤ b) → St w0 W w' (A' :: B) := by
  obtain ⟨h1, F, ⟨F1, F2, rfl, h5, h4, h6⟩, h3⟩ := h
  refine ⟨F1, h4, fun A' w' F' hk ha hf => ⟨h1.then hk fun b hb => h3 b (by simp [hb]), F' ++ F2, ⟨F', F2, rfl, ?_, ha, h6.keep hk fun b hb hc => h5 b hc hb⟩, ?_⟩⟩
  · intro b hb hc
    rcases hf b hb with h | h
    · exact h5 b h hc
    · have := h6.lt b hc; omega
  · intro b hb
    simp only [List.mem_append] at hb
    rcases hb with h | h
    · rcases hf b h with h' | h'
      · exact h3 b (by simp [h'])
      · have := h1.size; right; omega
    · exact h3 b (by simp [h])
theorem Sat.unpick {w : World} {A : Res} : ∀ {Rs : List Res} {i : Nat} {F : List Nat}, i < Rs.length → Sat w (A :: Rs.eraseIdx i) F → ∃ F', Sat w (Rs.set i A) F' ∧ ∀ b, b ∈ F' ↔ b ∈ F
  | [], i, F, hi, _ => by simp at hi
  | R :: Rs, 0, F, hi, h => ⟨F, h, fun _ => Iff.rfl⟩
  | R :: Rs, i + 1, F, hi, h => by
    obtain ⟨F', h1, h2⟩ := Sat.swap (Rs := Rs.eraseIdx i) (B := R) h
    obtain ⟨F1, F2, rfl, h3, h4, h5⟩ := h1
    obtain ⟨F2', h6, h7⟩ := Sat.unpick (by simpa using hi) h5
    exact ⟨F1 ++ F2', ⟨F1, F2', rfl, fun b hb hc => h3 b hb ((h7 b).1 hc), h4, h6⟩, fun b => by rw [← h2]; simp [h7]⟩
theorem St.updAt (h : St w0 W w Rs) (i : Nat) (hi : Rs[i]? = some A) : ∃ F, A.p w F ∧ ∀ (A' : Res) (w' : World) (F' : List Nat), Keep F w w' → A'.p w' F' → (∀ b ∈ F', b ∈ F ∨ w.heap.size ≤ b) → St w0 W w' (Rs.set i A') := by
  obtain ⟨F, h1, h2⟩ := (h.pick i hi).upd
  refine ⟨F, h1, fun A' w' F' hk ha hf => ?_⟩
  obtain ⟨h3, F3, h4, h5⟩ := h2 A' w' F' hk ha hf
  obtain ⟨F4, h6, h7⟩ := h4.unpick (by
    rcases Nat.lt_or_ge i Rs.length with h | h
    · exact h
    · rw [List.getElem?_eq_none h] at hi; cases hi)
  exact ⟨h3, F4, h6, fun b hb => h5 b ((h7 b).1 hb)⟩

/-! ### The resources -/
def blkR (b : Nat) (cs : List Value) (T : TypeId) : Res where
  p w F := F = [b] ∧ Blk w b cs T
  keep := fun ⟨h1, h2⟩ hk hd => ⟨h1, hk.keeps h2 (hd b (by simp [h1]))⟩
  lt := fun ⟨h1, h2⟩ x hx => by rw [h1] at hx; simp at hx; subst hx; exact h2.lt
def ownR (s : Sl) (E sz : Nat) (cs : List Value) : Res where
  p w F := Own w s E sz cs F
  keep := fun h hk hd => h.keep hk hd
  lt := fun h => h.lt
def pureR (φ : Prop) : Res where
  p w F := F = [] ∧ φ
  keep := fun h _ _ => h
  lt := fun h x hx => by rw [h.1] at hx; simp at hx
def exR {α : Type} (f : α → Res) : Res where
  p w F := ∃ x, (f x).p w F
  keep := fun ⟨x, h⟩ hk hd => ⟨x, (f x).keep h hk hd⟩
  lt := fun ⟨x, h⟩ => (f x).lt h
def allR (Rs : List Res) : Res where
  p w F := Sat w Rs F
  keep := fun h hk hd => h.keep hk hd
  lt := fun h => h.lt

theorem Sat.append {w : World} : ∀ {L M : List Res} {F G : List Nat}, Sat w L F → Sat w M G → (∀ b ∈ F, b ∉ G) → Sat w (L ++ M) (F ++ G)
  | [], M, F, G, h, h', _ => by simp only [Sat] at h; subst h; simpa using h'
  | R :: L, M, F, G, ⟨F1, F2, h1, h2, h3, h4⟩, h', hd => by
    subst h1
    refine ⟨F1, F2 ++ G, by simp, ?_, h3, Sat.append h4 h' fun b hb => hd b (by simp [hb])⟩
    intro b hb hc
    simp only [List.mem_append] at hc
    rcases hc with h | h
    · exact h2 b hb h
    · exact hd b (by simp [hb]) h
theorem Sat.split {w : World} : ∀ {L M : List Res} {H : List Nat}, Sat w (L ++ M) H → ∃ F G, H = F ++ G ∧ Sat w L F ∧ Sat w M G ∧ ∀ b ∈ F, b ∉ G
  | [], M, H, h => ⟨[], H, rfl, rfl, h, by simp⟩
  | R :: L, M, H, ⟨F1, F2, h1, h2, h3, h4⟩ => by
    subst h1
    obtain ⟨F, G, rfl, h5, h6, h7⟩ := Sat.split h4
    refine ⟨F1 ++ F, G, by simp, ⟨F1, F, rfl, fun b hb hc => h2 b hb (by simp [hc]), h3, h5⟩, h6, ?_⟩
    intro b hb hc
    simp only [List.mem_append] at hb
    rcases hb with h | h
    · exact h2 b h (by simp [hc])
    · exact h7 b h hc
theorem St.open {L : List Res} (h : St w0 W w (allR L :: B)) : St w0 W w (L ++ B) := by
  obtain ⟨h1, F, ⟨F1, F2, rfl, h5, h4, h6⟩, h3⟩ := h
  exact ⟨h1, F1 ++ F2, Sat.append h4 h6 h5, h3⟩
theorem St.close (L : List Res) (h : St w0 W w (L ++ B)) : St w0 W w (allR L :: B) := by
  obtain ⟨h1, F, h2, h3⟩ := h
  obtain ⟨F1, F2, rfl, h4, h5, h6⟩ := h2.split
  exact ⟨h1, F1 ++ F2, ⟨F1, F2, rfl, h6, h4, h5⟩, h3⟩
theorem St.ex {α : Type} {f : α → Res} (h : St w0 W w (exR f :: B)) : ∃ x, St w0 W w (f x :: B) := by
  obtain ⟨h1, F, ⟨F1, F2, rfl, h5, ⟨x, h4⟩, h6⟩, h3⟩ := h
  exact ⟨x, h1, F1 ++ F2, ⟨F1, F2, rfl, h5, h4, h6⟩, h3⟩
theorem St.inj {α : Type} {f : α → Res} (x : α) (h : St w0 W w (f x :: B)) : St w0 W w (exR f :: B) := by
  obtain ⟨h1, F, ⟨F1, F2, rfl, h5, h4, h6⟩, h3⟩ := h
  exact ⟨h1, F1 ++ F2, ⟨F1, F2, rfl, h5, ⟨x, h4⟩, h6⟩, h3⟩
theorem St.unpure {φ : Prop} (h : St w0 W w (pureR φ :: B)) : φ ∧ St w0 W w B := ⟨(h.get 0 rfl).choose_spec.2, h.drop⟩
theorem St.pure {φ : Prop} (h : St w0 W w B) (hφ : φ) : St w0 W w (pureR φ :: B) := h.push (F' := []) (Keep.refl _ _) ⟨rfl, hφ⟩ (by simp)

theorem St.blk {b : Nat} {cs : List Value} {T : TypeId} (h : St w0 W w Rs) (i : Nat) (hi : Rs[i]? = some (blkR b cs T)) : Blk w b cs T := (h.get i hi).choose_spec.2

/-! ### Steps -/
section
variable {P : Program} {R : Ending → World → Prop} {Ks : Conts}

/-- Call of a function of which a contract over resources is known. -/
theorem t_callS {f : FuncId} {as : Array Value} {k : Rk} {c : k.D → Tr} {S : World → Prop} {x : k.D} (hc : Calls P f as w fun e w' => e = .returned (k.v x) ∧ S w') (hx : ∀ w', S w' → (c x).wp P R Ks w') : (Tr.call f as k c).wp P R Ks w :=
  t_call hc fun e w' h => ⟨x, h.1, hx w' h.2⟩
theorem t_callnS {f : FuncId} {as : Array Value} {k : Rk} {c : k.D → Tr} {S : World → Prop} {x : k.D} (hc : Calls P f as w fun e w' => e = .returned (k.v x) ∧ S w') (hx : ∀ w', S w' → (c x).wp P R Ks w') : (Tr.calln f as k c).wp P R Ks w :=
  t_calln hc fun e w' h => ⟨x, h.1, hx w' h.2⟩
theorem t_callvS {np : Bool} {g : FuncId} {first caps as args : Array Value} {k : Rk} {c : k.D → Tr} {S : World → Prop} {x : k.D} (hg : ∀ args w, (callFunc g args).run P w = .ok (.enter g args) w) (has : first ++ as ++ caps = args) (hc : Calls P g args w fun e w' => e = .returned (k.v x) ∧ S w') (hx : ∀ w', S w' → (c x).wp P R Ks w') : (Tr.callv np (.func (.func g) first caps) as k c).wp P R Ks w := by
  subst has
  simp only [Tr.wp]
  exact ⟨g, first, caps, rfl, hg, hc.mono fun e w' h => by obtain ⟨rfl, h2⟩ := h; exact ⟨x, rfl, hx w' h2⟩⟩
theorem t_if {p : Prop} {d : Decidable p} {t e : Tr} (ht : p → t.wp P R Ks w) (he : ¬ p → e.wp P R Ks w) : (Tr.cond (@decide p d) t e).wp P R Ks w :=
  t_cond (fun h => ht (of_decide_eq_true h)) (fun h => he (of_decide_eq_false h))
theorem t_ifn {p : Prop} {d : Decidable p} {t e : Tr} (ht : ¬ p → t.wp P R Ks w) (he : p → e.wp P R Ks w) : (Tr.cond (!(@decide p d)) t e).wp P R Ks w :=
  t_cond (fun h => ht (of_decide_eq_false (by simpa using h))) (fun h => he (of_decide_eq_true (by simpa using h)))
theorem t_not {b : Bool} {t e : Tr} (ht : b = false → t.wp P R Ks w) (he : b = true → e.wp P R Ks w) : (Tr.cond (!b) t e).wp P R Ks w :=
  t_cond (fun h => ht (by simpa using h)) (fun h => he (by simpa using h))
theorem t_yes {p : Prop} {d : Decidable p} {t e : Tr} (hp : p) (ht : t.wp P R Ks w) : (Tr.cond (@decide p d) t e).wp P R Ks w := t_true (decide_eq_true hp) ht
theorem t_no {p : Prop} {d : Decidable p} {t e : Tr} (hp : ¬ p) (he : e.wp P R Ks w) : (Tr.cond (@decide p d) t e).wp P R Ks w := t_false (decide_eq_false hp) he
theorem t_nyes {p : Prop} {d : Decidable p} {t e : Tr} (hp : p) (he : e.wp P R Ks w) : (Tr.cond (!(@decide p d)) t e).wp P R Ks w := t_false (by simp [hp]) he
theorem t_nno {p : Prop} {d : Decidable p} {t e : Tr} (hp : ¬ p) (ht : t.wp P R Ks w) : (Tr.cond (!(@decide p d)) t e).wp P R Ks w := t_true (by simp [hp]) ht

/-- A load from a block that is held. -/
theorem t_ldB {b o : Nat} {k : Kd} {c : k.D → Tr} {cs : List Value} {T : TypeId} {x : k.D} (h : St w0 W w Rs) (i : Nat) (hi : Rs[i]? = some (blkR b cs T)) (hx : k.rd (cs.drop o) = some x) (hc : (c x).wp P R Ks w) :
    (Tr.ld ⟨b, o, none⟩ k c).wp P R Ks w := t_ld (h.blk i hi) x (Kd.rd_v hx) hc
theorem t_stB {b o : Nat} {vs : List Value} {c : Tr} {cs : List Value} {T : TypeId} (h : St w0 W w Rs) (i : Nat) (hi : Rs[i]? = some (blkR b cs T)) (ho : o + vs.length ≤ cs.length) (hv : ∀ v ∈ vs, v.oneCell' = true)
    (hc : ∀ w', St w0 W w' (Rs.set i (blkR b (setL cs o vs) T)) → c.wp P R Ks w') : (Tr.st ⟨b, o, none⟩ vs c).wp P R Ks w := by
  obtain ⟨F, ⟨hF, hb⟩, hu⟩ := h.updAt i hi
  subst hF
  exact t_stL hb ho hv fun w' hb' hk => hc w' (hu _ w' [b] hk ⟨rfl, hb'⟩ (by simp))
theorem t_newB {T : TypeId} {vs : List Value} {c : Addr → Tr} (h : St w0 W w Rs) (hv : ∀ v ∈ vs, v.oneCell' = true) (hc : ∀ w' b, St w0 W w' (blkR b vs T :: Rs) → w0.heap.size ≤ b → (c ⟨b, 0, none⟩).wp P R Ks w') : (Tr.new T vs c).wp P R Ks w :=
  t_new hv fun w' hb hk hs => hc w' w.heap.size (h.push (F' := [w.heap.size]) hk ⟨rfl, hb⟩ (by simp)) h.kept.size
theorem t_tickS {c : Tr} (h : St w0 W w Rs) (hc : ∀ w', St w0 W w' Rs → c.wp P R Ks w') : (Tr.tick c).wp P R Ks w := t_tick fun w' hk _ => hc w' (h.keep hk)

/-! Slices of the call's own. -/
theorem Own.some {s : Sl} {E sz : Nat} {cs : List Value} {F : List Nat} (h : Own w s E sz cs F) (hn : 0 < s.n) : ∃ b o blk, s.a = .some ⟨b, o, none⟩ ∧ F = [b] ∧ Blk w b blk E ∧ o + s.c * sz ≤ blk.length ∧ (blk.drop o).take cs.length = cs := by
  rcases h.at_ with ⟨_, h2, _⟩ | h'
  · have := h.cap; omega
  · exact h'
theorem setL_sub {blk cs vs : List Value} {o m : Nat} (ht : (blk.drop o).take cs.length = cs) (hl : o + cs.length ≤ blk.length) (ho : m + vs.length ≤ cs.length) : ((setL blk (o + m) vs).drop o).take cs.length = setL cs m vs := by
  rw [setL_drop _ _ _ (by omega), setL_drop _ _ _ ho]
  have ho' : (blk.take o).length = o := by simp; omega
  have e1 : blk.take (o + m) = blk.take o ++ cs.take m := by
    rw [List.take_add]
    congr 1
    rw [← ht, List.take_take, Nat.min_eq_left (by omega)]
  have e2 : blk.drop (o + m + vs.length) = cs.drop (m + vs.length) ++ blk.drop (o + cs.length) := by
    rw [Nat.add_assoc, ← List.drop_drop]
    conv => lhs; rw [← List.take_append_drop cs.length (blk.drop o)]
    rw [ht, List.drop_drop, List.drop_append_of_le_length (by omega)]
  rw [e1, e2]
  simp only [List.append_assoc]
  rw [List.drop_append_of_le_length (by omega), List.drop_of_length_le (by omega), List.nil_append]
  rw [← List.append_assoc, ← List.append_assoc, ← List.append_assoc, List.take_append_of_le_length (by simp; omega), List.take_of_length_le (by simp; omega)]
theorem t_nilO {s : Sl} {E sz : Nat} {cs : List Value} {c : Addr → Tr} (h : St w0 W w Rs) (i : Nat) (hi : Rs[i]? = some (ownR s E sz cs)) (hn : 0 < s.n) (hc : ∀ a, s.a = some a → (c a).wp P R Ks w) : (Tr.nil s.a c).wp P R Ks w := by
  obtain ⟨F, hF⟩ := h.get i hi
  obtain ⟨b, o, blk, h1, _⟩ := Own.some hF hn
  rw [h1]
  exact t_nil (hc _ h1)
theorem t_ldO {s : Sl} {E sz : Nat} {cs : List Value} {a : Addr} {m : Nat} {k : Kd} {c : k.D → Tr} {x : k.D} (h : St w0 W w Rs) (i : Nat) (hi : Rs[i]? = some (ownR s E sz cs)) (ha : s.a = some a) (hx : k.rd (cs.drop m) = some x)
    (hc : (c x).wp P R Ks w) (hpos : 0 < (k.cells x).length := by exact Nat.succ_pos _) : (Tr.ld (a.add m) k c).wp P R Ks w := by
  obtain ⟨F, hF⟩ := h.get i hi
  have hrd := Kd.rd_v hx
  have hn : 0 < s.n := by
    rcases Nat.eq_zero_or_pos s.n with h0 | h0
    · have hl := hF.len; rw [h0] at hl
      have : cs = [] := List.eq_nil_of_length_eq_zero (by simpa using hl)
      subst this
      rw [← hrd] at hpos; simp at hpos
    · exact h0
  obtain ⟨b, o, blk, h1, _, hb, hl, ht⟩ := Own.some hF hn
  rw [h1] at ha; cases ha
  rw [add_mk]
  refine t_ld hb x ?_ hc
  have h3 : (cs.drop m).take (k.cells x).length = ((blk.drop (o + m)).take (cs.length - m)).take (k.cells x).length := by
    conv => lhs; rw [← ht]
    rw [List.drop_take, List.drop_drop]
  have h4 : (k.cells x).length ≤ cs.length - m := by rw [← hrd]; simp; omega
  rw [hrd, List.take_take, Nat.min_eq_left h4] at h3
  exact h3.symm
theorem t_stO {s : Sl} {E sz : Nat} {cs : List Value} {a : Addr} {m : Nat} {vs : List Value} {c : Tr} (h : St w0 W w Rs) (i : Nat) (hi : Rs[i]? = some (ownR s E sz cs)) (ha : s.a = some a) (ho : m + vs.length ≤ cs.length) (hv : ∀ v ∈ vs, v.oneCell' = true)
    (hc : ∀ w', St w0 W w' (Rs.set i (ownR s E sz (setL cs m vs))) → c.wp P R Ks w') : (Tr.st (a.add m) vs c).wp P R Ks w := by
  obtain ⟨F, hF, hu⟩ := h.updAt i hi
  have hF' : Own w s E sz cs F := hF
  rcases hF'.at_ with ⟨h1, _⟩ | ⟨b, o, blk, h1, rfl, hb, hl, ht⟩
  · rw [h1] at ha; cases ha
  rw [h1] at ha; cases ha
  rw [add_mk]
  have hcl := hF'.len
  have hcap : s.n * sz ≤ s.c * sz := Nat.mul_le_mul_right _ hF'.cap
  refine t_stL hb (by omega) hv fun w' hb' hk => hc w' (hu (ownR s E sz (setL cs m vs)) w' [b] hk ?_ (by simp))
  exact ⟨by rw [setL_length]; exact hcl, hF'.cap, .inr ⟨b, o, _, h1, rfl, hb', by rw [setL_length]; exact hl, by rw [setL_length]; exact setL_sub ht (by omega) ho⟩⟩
/-- make([]T, n) -/
theorem t_make {t E sz by_ : Nat} {z : Value} {c : Sl → Tr} {n : Int} (h : St w0 W w Rs) (hI : slI P t = some (E, sz, by_, z)) (hz : z.cells.size = sz) (hn0 : 0 ≤ n) (hn : by_ * n.toNat ≤ 281474976710656) (hm : n ≤ 9223372036854775807)
    (hc : ∀ (s : Sl) (w' : World), s.n = n.toNat → s.c = n.toNat → s.a ≠ none → St w0 W w' (ownR s E sz (zeroRow z.cells.toList n.toNat) :: Rs) → (c s).wp P R Ks w') : (Tr.sem (Instr.makeSlice t (.int .i64 n) (.int .i64 n)) .L c).wp P R Ks w := by
  obtain ⟨m, rfl⟩ := Int.eq_ofNat_of_zero_le hn0
  have hl : (zeroRow z.cells.toList m).length = m * sz := by
    have : ∀ k, (zeroRow z.cells.toList k).length = k * sz := by
      intro k
      induction k with
      | zero => simp [zeroRow]
      | succ k ih => simp only [zeroRow, List.length_append, ih, Nat.add_mul]; simp [hz]; omega
    exact this m
  refine t_sem (k := .L) ⟨some ⟨w.heap.size, 0, none⟩, m, m⟩ (run_make_n hI hz m (by simpa using hn) (by omega)) ?_
  refine hc _ _ (by simp) (by simp) (by simp) (h.push (F' := [w.heap.size]) ((Keep.refl _ _).alloc _) (Own.fresh w.heap.size _ rfl (Blk.new w _ E) ?_ (Nat.le_refl _) ?_ ?_) (by simp))
  · simpa using hl
  · rw [hl]; exact Nat.le_refl _
  · simp
/-- append(s, x..) -/
theorem t_append {t u ty E sz by_ : Nat} {z : Value} {s : Sl} {cs : List Value} {x : Value} {m : Nat} {xs : List Value} {c : Sl → Tr} (h : St w0 W w Rs) (i : Nat) (hi : Rs[i]? = some (ownR s E sz cs)) (hI : slI P t = some (E, sz, by_, z)) (hzs : z.cells.size = sz)
    (hu : ∃ d, P.underlying u = some d ∧ ∀ k, d ≠ .int k) (hsrc : Src P w sz x m xs) (hone : ∀ v ∈ xs, v.oneCell' = true) (hby : (s.n + m) * by_ ≤ 140737488355328) (hpos : 0 < by_)
    (hc : ∀ (s' : Sl) (w' : World), s'.n = s.n + m → St w0 W w' (Rs.set i (ownR s' E sz (cs ++ xs))) → (c s').wp P R Ks w') : (Tr.sem (Builtin.append_ #[t, u] ty #[.slice s.a s.n s.c, x]) .L c).wp P R Ks w := by
  obtain ⟨F, hF, hupd⟩ := h.updAt i hi
  obtain ⟨s', F', w', hr, hn, hO, hk, hf⟩ := run_append_own (ty := ty) hI hzs hu hF hsrc hone hby hpos
  exact t_sem (k := .L) s' hr (hc s' w' hn (hupd (ownR s' E sz (cs ++ xs)) w' F' hk hO hf))
/-- string(b) -/
theorem t_str {src dst : TypeId} {s : Sl} {E : Nat} {l : List UInt8} {c : ByteArray → Tr} (hb : isBytesT P src dst = true) (h : St w0 W w Rs) (i : Nat) (hi : Rs[i]? = some (ownR s E 1 (u8s l))) (hc : (c ⟨l.toArray⟩).wp P R Ks w) :
    (Tr.sem (convert src dst (.slice s.a s.n s.c)) .S c).wp P R Ks w := by
  obtain ⟨F, hF⟩ := h.get i hi
  exact t_sem (k := .S) _ (run_str_own hb hF) hc

theorem Src.keep {sz : Nat} {s : Sl} {E : Nat} {F : List Nat} {cs : List Value} (h : Own w s E sz cs F) (hk : Keep [] w w') : Src P w' sz (.slice s.a s.n s.c) s.n cs := Src.of_own (h.keep hk (by simp))
/-- A slice's tail as a source. -/
theorem Src.of_own_drop {s : Sl} {E sz : Nat} {cs : List Value} {F : List Nat} (h : Own w s E sz cs F) {k : Nat} (hk : k ≤ s.n) : Src P w sz (.slice (slB s.a k sz s.c) (s.n - k) (s.c - k)) (s.n - k) (cs.drop (k * sz)) where
  len := fun w' => rfl
  size := by rw [List.length_drop, h.len, Nat.sub_mul]
  read := fun w' hw => by
    have hcap := h.cap
    rcases h.at_ with ⟨h1, h2, _⟩ | ⟨b, o, blk, h1, _, hb, hl, ht⟩
    · have hn : s.n = 0 := by omega
      have hcs : cs = [] := List.eq_nil_of_length_eq_zero (by rw [h.len, hn]; simp)
      have : slB s.a k sz s.c = none := by rw [h1]; unfold slB; split <;> rfl
      rw [this, hcs]
      simp [Builtin.firstCells]
    · have hsz : (cs.drop (k * sz)).length = (s.n - k) * sz := by rw [List.length_drop, h.len, Nat.sub_mul]
      by_cases hkc : s.c = k
      · have : s.n - k = 0 := by omega
        have hnil : cs.drop (k * sz) = [] := List.eq_nil_of_length_eq_zero (by rw [hsz, this]; simp)
        have e : slB s.a k sz s.c = s.a := by unfold slB; rw [if_pos hkc]
        rw [hnil, this, e, h1]
        have := run_loadCells_list (P := P) (w := w') ⟨b, o, none⟩ [] (by simp)
        simpa [Builtin.firstCells] using this
      · have e : slB s.a k sz s.c = some ⟨b, o + k * sz, none⟩ := by unfold slB; rw [if_neg hkc, h1]; simp
        rw [e]
        simp only [Builtin.firstCells]
        rw [← hsz]
        refine run_loadCells_list (w := w') ⟨b, o + k * sz, none⟩ _ fun j v hj => ?_
        rw [cell?_heap hw, add_mk, hb.cell]
        rw [List.getElem?_drop] at hj
        have hlt : k * sz + j < cs.length := by
          rcases Nat.lt_or_ge (k * sz + j) cs.length with h' | h'
          · exact h'
          · rw [List.getElem?_eq_none h'] at hj; cases hj
        have h2 : ((blk.drop o).take cs.length)[k * sz + j]? = some v := by rw [ht]; exact hj
        rw [List.getElem?_take_of_lt hlt, List.getElem?_drop] at h2
        rw [Nat.add_assoc]; exact h2
/-- copy(s[k:], x), all of x having its place. -/
theorem t_copyO {t u ty E sz by_ : Nat} {z : Value} {s : Sl} {cs : List Value} {x : Value} {m k : Nat} {xs : List Value} {c : Int → Tr} (h : St w0 W w Rs) (i : Nat) (hi : Rs[i]? = some (ownR s E sz cs)) (hI : slI P t = some (E, sz, by_, z))
    (hsrc : Src P w sz x m xs) (hone : ∀ v ∈ xs, v.oneCell' = true) (hm : k + m ≤ s.n)
    (hc : ∀ (w' : World), St w0 W w' (Rs.set i (ownR s E sz (setL cs (k * sz) xs))) → (c m).wp P R Ks w') : (Tr.sem (Builtin.copy_ #[t, u] ty #[.slice (slB s.a k sz s.c) (s.n - k) (s.c - k), x]) .I c).wp P R Ks w := by
  obtain ⟨F, hF, hupd⟩ := h.updAt i hi
  have hO : Own w s E sz cs F := hF
  obtain ⟨hut, inf, hinf, hs, hb, hzz⟩ := slI_spec hI
  have hlen := hsrc.len
  have hr := hsrc.read w rfl
  have hmin : Nat.min m (s.n - k) = m := Nat.min_eq_left (by omega)
  have hcap := hO.cap
  have nothing : m = 0 → xs = [] := fun h0 => List.eq_nil_of_length_eq_zero (by rw [hsrc.size, h0]; simp)
  have same : xs = [] → St w0 W w (Rs.set i (ownR s E sz (setL cs (k * sz) xs))) := fun h0 => by
    subst h0
    exact hupd _ w F (Keep.refl _ _) hF fun b hb => .inl hb
  rcases hO.at_ with ⟨h1, h2, _⟩ | ⟨b, o, blk, h1, rfl, hbk, hl, ht⟩
  · have e : slB s.a k sz s.c = none := by rw [h1]; unfold slB; split <;> rfl
    refine t_sem (k := .I) (w' := w) (m : Int) ?_ (hc w (same (nothing (by omega))))
    rw [e]
    simp [Builtin.copy_, run_underlying hut, hlen, sizeOf, typeInfo, hinf, hs, hmin, hr, goInt]
    rfl
  · by_cases hkc : s.c = k
    · have h0 := nothing (by omega)
      have e : slB s.a k sz s.c = s.a := by unfold slB; rw [if_pos hkc]
      refine t_sem (k := .I) (w' := w) (m : Int) ?_ (hc w (same h0))
      rw [e, h1]
      subst h0
      obtain ⟨w', hst, _⟩ := run_storeCells_blk (P := P) [] o blk w hbk (by simp; have : s.n * sz ≤ s.c * sz := Nat.mul_le_mul_right _ hcap; omega) (by simp)
      have hst' : (storeCells ⟨b, o, none⟩ []).run P w = .ok () w := by rfl
      simp [Builtin.copy_, run_underlying hut, hlen, sizeOf, typeInfo, hinf, hs, hmin, hr, goInt, hst']
      rfl
    · have e : slB s.a k sz s.c = some ⟨b, o + k * sz, none⟩ := by unfold slB; rw [if_neg hkc, h1]; simp
      have hcl := hO.len
      have hsz := hsrc.size
      have hle1 : s.n * sz ≤ s.c * sz := Nat.mul_le_mul_right _ hcap
      have hle2 : (k + m) * sz ≤ s.n * sz := Nat.mul_le_mul_right _ hm
      rw [Nat.add_mul] at hle2
      obtain ⟨w', hst, hb', hk', _⟩ := run_storeCells_blk (P := P) xs (o + k * sz) blk w hbk (by omega) hone
      refine t_sem (k := .I) (w' := w') (m : Int) ?_ (hc w' (hupd (ownR s E sz (setL cs (k * sz) xs)) w' [b] hk' ?_ fun b hb => .inl hb))
      · rw [e]
        simp [Builtin.copy_, run_underlying hut, hlen, sizeOf, typeInfo, hinf, hs, hmin, hr, goInt, hst]
        rfl
      · exact ⟨by rw [setL_length]; exact hcl, hcap, .inr ⟨b, o, _, h1, rfl, hb', by rw [setL_length]; exact hl, by rw [setL_length]; exact setL_sub ht (by omega) (by omega)⟩⟩
theorem t_keepN {c : Tr} (h : c.wp P R Ks w) : (Tr.keep [] c).wp P R Ks w := ⟨by simp, h⟩
theorem t_keepB {b o : Nat} {vs : List Value} {l : List (Addr × List Value)} {c : Tr} {cs : List Value} {T : TypeId} (h : St w0 W w Rs) (i : Nat) (hi : Rs[i]? = some (blkR b cs T)) (hx : (cs.drop o).take vs.length = vs) (hc : (Tr.keep l c).wp P R Ks w) : (Tr.keep ((⟨b, o, none⟩, vs) :: l) c).wp P R Ks w := by
  obtain ⟨h1, h2⟩ := hc
  exact ⟨fun x hm => by
    rcases List.mem_cons.1 hm with rfl | hm
    · exact hasL_take (h.blk i hi) hx
    · exact h1 x hm, h2⟩
/-- An empty slice of the call's own. -/
theorem t_newO {T sz : Nat} {c : Addr → Tr} (h : St w0 W w Rs) (hc : ∀ w' a, Keep [] w w' → St w0 W w' (ownR ⟨some a, 0, 0⟩ T sz [] :: Rs) → (c a).wp P R Ks w') : (Tr.new T [] c).wp P R Ks w :=
  t_new (by simp) fun w' hb hk hs => hc w' _ hk (h.push (F' := [w.heap.size]) hk (Own.fresh w.heap.size [] rfl hb (by simp) (Nat.le_refl _) (by simp) rfl) (by simp))

abbrev Sl.v (s : Sl) : Value := .slice s.a s.n s.c
theorem St.rot2 {X Y Z : Res} (h : St w0 W w (X :: Y :: Z :: B)) : St w0 W w (Z :: X :: Y :: B) := h.pick 2 rfl
theorem St.rot3 {X Y Z U : Res} (h : St w0 W w (X :: Y :: Z :: U :: B)) : St w0 W w (U :: X :: Y :: Z :: B) := h.pick 3 rfl
theorem St.unrot2 {X Y Z : Res} (h : St w0 W w (X :: Y :: Z :: B)) : St w0 W w (Y :: Z :: X :: B) := h.rot2.rot2
theorem St.unrot3 {X Y Z U : Res} (h : St w0 W w (X :: Y :: Z :: U :: B)) : St w0 W w (Y :: Z :: U :: X :: B) := h.rot3.rot3.rot3
theorem own_n {s : Sl} {E sz : Nat} {cs : List Value} {Rs : List Res} (h : St w0 W w Rs) (i : Nat) (hi : Rs[i]? = some (ownR s E sz cs)) : cs.length = s.n * sz ∧ s.n ≤ s.c := by
  obtain ⟨F, hF⟩ := h.get i hi
  exact ⟨hF.len, hF.cap⟩
theorem Src_own {Rs : List Res} {s : Sl} {E sz : Nat} {cs : List Value} (h : St w0 W w Rs) (i : Nat) (hi : Rs[i]? = some (ownR s E sz cs)) : ∀ w', Keep [] w w' → Src P w' sz (Sl.v s) s.n cs := fun w' hk => by
  obtain ⟨F, hF⟩ := h.get i hi
  exact Src.keep hF hk
theorem Src_own_drop {Rs : List Res} {s : Sl} {E sz : Nat} {cs : List Value} (h : St w0 W w Rs) (i : Nat) (hi : Rs[i]? = some (ownR s E sz cs)) {k : Nat} (hk : k ≤ s.n) : ∀ w', Keep [] w w' → Src P w' sz (Sl.v ⟨slB s.a k sz s.c, s.n - k, s.c - k⟩) (s.n - k) (cs.drop (k * sz)) := fun w' hk' => by
  obtain ⟨F, hF⟩ := h.get i hi
  exact Src.of_own_drop ((hF : Own w s E sz cs F).keep hk' (by simp)) hk
theorem own_none {Rs : List Res} {s : Sl} {E sz : Nat} {cs : List Value} (h : St w0 W w Rs) (i : Nat) (hi : Rs[i]? = some (ownR s E sz cs)) (hn : s.a = none) : s.n = 0 := by
  obtain ⟨F, hF⟩ := h.get i hi
  have hO : Own w s E sz cs F := hF
  rcases hO.at_ with ⟨_, h2, _⟩ | ⟨b, o, blk, h1, _⟩
  · have := hO.cap; omega
  · rw [h1] at hn; cases hn


theorem Conts.set_mono {Ks Ks' : Conts} {J J' : Cont} {l : Nat} (h : ∀ l vs w, Ks l vs w → Ks' l vs w) (hJ : ∀ vs w, J vs w → J' vs w) : ∀ i vs w, Ks.set l J i vs w → Ks'.set l J' i vs w := by
  intro i vs w hi
  unfold Conts.set at *
  cases hb : Nat.beq i l with
  | true => rw [hb] at hi; exact hJ _ _ hi
  | false => rw [hb] at hi; exact h _ _ _ hi
theorem stW_mono : ∀ {vs : List Value} {w : World} {p : Addr} {i : Nat} {K K' : World → Prop}, (∀ w, K w → K' w) → stW w p i vs K → stW w p i vs K'
  | [], _, _, _, _, _, h, hk => h _ hk
  | v :: r, _, _, _, _, _, h, ⟨h1, h2, h3, h4⟩ => ⟨h1, h2, h3, stW_mono h h4⟩
theorem LeavesT_mono {R R' : Ending → World → Prop} (hR : ∀ e w, R e w → R' e w) {rs : List (Addr × Kd)} : ∀ {u : FrameMode} {w : World}, LeavesT R rs u w → LeavesT R' rs u w
  | .returning, _, ⟨vs, h1, h2⟩ => ⟨vs, h1, hR _ _ h2⟩
  | .panicking _, _, h => hR _ _ h
  | .run, _, h => h
theorem AfterD_mono {R R' : Ending → World → Prop} (hR : ∀ e w, R e w → R' e w) {rs : List (Addr × Kd)} : ∀ {e : Ending} {u : FrameMode} {w : World}, AfterD R rs e u w → AfterD R' rs e u w
  | .returned _, _, _, h => LeavesT_mono hR h
  | .panicked _, _, _, h => LeavesT_mono hR h
  | .outgrown, _, _, h => h
theorem LeaveR_mono {P : Program} {g : FuncId} {args : Array Value} {rs : List (Addr × Kd)} {R R' : Ending → World → Prop} (hR : ∀ e w, R e w → R' e w) : ∀ (e : Ending) (w : World), LeaveR P g args rs R e w → LeaveR P g args rs R' e w
  | .returned _, _, h => CallsD.mono h fun _ _ _ h => AfterD_mono hR h
  | .panicked _, _, h => CallsD.mono h fun _ _ _ h => AfterD_mono hR h
  | .outgrown, _, h => h
theorem Tr.wp_mono {P : Program} {R R' : Ending → World → Prop} (hR : ∀ e w, R e w → R' e w) (t : Tr) : ∀ {Ks Ks' : Conts} {w : World}, (∀ l vs w, Ks l vs w → Ks' l vs w) → t.wp P R Ks w → t.wp P R' Ks' w := by
  induction t generalizing R R' with
  | fail => intro _ _ _ _ h; exact h
  | ret v => intro _ _ _ _ h; exact hR _ _ h
  | pan v => intro _ _ _ _ h; exact hR _ _ h
  | jmp l vs => intro _ _ _ hk h; exact hk _ _ _ h
  | need p t ih => intro _ _ _ hk h; exact ⟨h.1, ih hR hk h.2⟩
  | bind l ks m k ih ih2 =>
    intro _ _ _ hk h
    exact ih hR (Conts.set_mono hk fun vs w hv => by obtain ⟨s, h1, h2⟩ := hv; exact ⟨s, h1, ih2 s hR hk h2⟩) h
  | loop l ks s b ih =>
    intro _ _ _ hk h
    obtain ⟨I, n, h1, h2⟩ := h
    exact ⟨I, n, h1, fun n s w hI => ih s hR (Conts.set_mono hk fun _ _ hv => hv) (h2 n s w hI)⟩
  | ld p k c ih => intro _ _ _ hk h; obtain ⟨x, h1, h2⟩ := h; exact ⟨x, h1, ih x hR hk h2⟩
  | st p vs c ih => intro _ _ _ hk h; exact stW_mono (fun w hw => ih hR hk hw) h
  | new T vs c ih => intro _ _ _ hk h; exact ⟨h.1, ih _ hR hk h.2⟩
  | call f as k c ih =>
    intro _ _ _ hk h
    simp only [Tr.wp] at h ⊢
    refine Calls.mono h fun e w' he => ?_
    cases e with
    | returned v => obtain ⟨x, h1, h2⟩ := he; exact ⟨x, h1, ih x hR hk h2⟩
    | panicked ch => exact hR _ _ he
    | outgrown => exact he
  | calln f as k c ih =>
    intro _ _ _ hk h
    simp only [Tr.wp] at h ⊢
    refine Calls.mono h fun e w' he => ?_
    cases e with
    | returned v => obtain ⟨x, h1, h2⟩ := he; exact ⟨x, h1, ih x hR hk h2⟩
    | panicked ch => exact hR _ _ he
    | outgrown => exact he
  | callv np f as k c ih =>
    intro _ _ _ hk h
    simp only [Tr.wp] at h ⊢
    obtain ⟨g, first, caps, h1, h2, h3⟩ := h
    refine ⟨g, first, caps, h1, h2, Calls.mono h3 fun e w' he => ?_⟩
    cases e with
    | returned v => obtain ⟨x, h1, h2⟩ := he; exact ⟨x, h1, ih x hR hk h2⟩
    | panicked ch => exact ⟨he.1, hR _ _ he.2⟩
    | outgrown => exact he
  | sem s k c ih => intro _ _ _ hk h; obtain ⟨x, w', h1, h2⟩ := h; exact ⟨x, w', h1, ih x hR hk h2⟩
  | semU s c ih => intro _ _ _ hk h; obtain ⟨w', h1, h2⟩ := h; exact ⟨w', h1, ih hR hk h2⟩
  | tick c ih => intro _ _ _ hk h; exact ih hR hk h
  | keep l c ih => intro _ _ _ hk h; exact ⟨h.1, ih hR hk h.2⟩
  | both a b iha ihb => intro _ _ _ hk h; exact ⟨iha hR hk h.1, ihb hR hk h.2⟩
  | dfr f as rs c ih => intro _ _ _ hk h; obtain ⟨g, first, caps, h1, h2, h3⟩ := h; exact ⟨g, first, caps, h1, h2, ih (LeaveR_mono hR) hk h3⟩
/-- A join of which all that counts is said once. -/
theorem t_bindQ {l : Nat} {ks : List Kd} {m : Tr} {k : DT ks → Tr} (Q : DT ks → World → Prop) (hm : m.wp P R (Ks.set l fun vs w' => ∃ s, vs = vT ks s ∧ Q s w') w) (hk : ∀ s w', Q s w' → (k s).wp P R Ks w') : (Tr.bind l ks m k).wp P R Ks w :=
  Tr.wp_mono (fun _ _ h => h) m (Conts.set_mono (fun _ _ _ h => h) fun vs w' hv => by obtain ⟨s, h1, h2⟩ := hv; exact ⟨s, h1, hk s w' h2⟩) hm
theorem t_both {a b : Tr} (ha : a.wp P R Ks w) (hb : b.wp P R Ks w) : (Tr.both a b).wp P R Ks w := ⟨ha, hb⟩
/-- An own slice's tail is an own slice. -/
theorem Own.tail {s : Sl} {E sz : Nat} {cs : List Value} {F : List Nat} (h : Own w s E sz cs F) {k : Nat} (hk : k ≤ s.n) : Own w ⟨slB s.a k sz s.c, s.n - k, s.c - k⟩ E sz (cs.drop (k * sz)) F := by
  have hcap := h.cap
  have hcl := h.len
  refine ⟨by rw [List.length_drop, hcl, Nat.sub_mul], by dsimp only; omega, ?_⟩
  rcases h.at_ with ⟨h1, h2, h3⟩ | ⟨b, o, blk, h1, h2, hb, hl, ht⟩
  · exact .inl ⟨by rw [h1]; unfold slB; split <;> rfl, by dsimp only; omega, h3⟩
  · by_cases hkc : s.c = k
    · have h0 : s.n - k = 0 := by omega
      have h0' : s.c - k = 0 := by omega
      have hnil : cs.drop (k * sz) = [] := List.eq_nil_of_length_eq_zero (by rw [List.length_drop, hcl, ← Nat.sub_mul, h0]; simp)
      refine .inr ⟨b, o, blk, by dsimp only; unfold slB; rw [if_pos hkc, h1], h2, hb, by dsimp only; rw [h0', Nat.zero_mul]; have := Nat.zero_le (s.c * sz); omega, by rw [hnil]; simp⟩
    · have hm : k * sz + (s.c - k) * sz = s.c * sz := by rw [← Nat.add_mul]; congr 1; omega
      refine .inr ⟨b, o + k * sz, blk, by dsimp only; unfold slB; rw [if_neg hkc, h1]; simp, h2, hb, by dsimp only; omega, ?_⟩
      rw [List.length_drop]
      conv => rhs; rw [← ht]
      rw [List.drop_take, List.drop_drop]
theorem St.tail {s : Sl} {E sz : Nat} {cs : List Value} (h : St w0 W w (ownR s E sz cs :: B)) {k : Nat} (hk : k ≤ s.n) : St w0 W w (ownR ⟨slB s.a k sz s.c, s.n - k, s.c - k⟩ E sz (cs.drop (k * sz)) :: B) := by
  obtain ⟨F, hF, hu⟩ := h.upd
  exact hu _ w F (Keep.refl _ _) (Own.tail hF hk) fun b hb => .inl hb
end
end Go.Proofs.YthfcneahnldgnaaGreat.Vk
