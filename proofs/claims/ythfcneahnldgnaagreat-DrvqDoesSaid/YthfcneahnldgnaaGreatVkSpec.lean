/- Vk, part 11: contracts without their frames (Con), matching of what is held by search (Sub), and steps over them. -/
import Derived.Test.YthfcneahnldgnaaGreatVkRd
namespace Go.Proofs.YthfcneahnldgnaaGreat.Vk
open Go
set_option linter.unusedSimpArgs false
set_option linter.unusedVariables false
/-- What is held holds these ahead, and the rest. -/
def Sub (Rs pre rest : List Res) : Prop := ∀ w F, Sat w Rs F → ∃ F', Sat w (pre ++ rest) F' ∧ ∀ b, b ∈ F' ↔ b ∈ F
theorem Sub.nil (Rs : List Res) : Sub Rs [] Rs := fun _ F h => ⟨F, h, fun _ => Iff.rfl⟩
theorem Sub.refl (Rs : List Res) : Sub Rs Rs [] := fun _ F h => ⟨F, by rwa [List.append_nil], fun _ => Iff.rfl⟩
theorem Sub.c0 {A : Res} {Rs pre rest : List Res} (h : Sub Rs pre rest) : Sub (A :: Rs) (A :: pre) rest := by
  rintro w F ⟨F1, F2, rfl, h2, h3, h4⟩
  obtain ⟨F', h5, h6⟩ := h w F2 h4
  exact ⟨F1 ++ F', ⟨F1, F', rfl, fun b hb hc => h2 b hb ((h6 b).1 hc), h3, h5⟩, fun b => by simp [h6]⟩
theorem Sub.sw {A B : Res} {Rs pre rest : List Res} (h : Sub (A :: B :: Rs) pre rest) : Sub (B :: A :: Rs) pre rest := by
  intro w F hF
  obtain ⟨F', h1, h2⟩ := hF.swap
  obtain ⟨F2, h3, h4⟩ := h w F' h1
  exact ⟨F2, h3, fun b => by rw [h4, h2]⟩
theorem Sub.up {A : Res} {Rs Rs' pre rest : List Res} (hp : Sub Rs Rs' []) (h : Sub (A :: Rs') pre rest) : Sub (A :: Rs) pre rest := by
  rintro w F ⟨F1, F2, rfl, h2, h3, h4⟩
  obtain ⟨F', h5, h6⟩ := hp w F2 h4
  rw [List.append_nil] at h5
  obtain ⟨F3, h7, h8⟩ := h w (F1 ++ F') ⟨F1, F', rfl, fun b hb hc => h2 b hb ((h6 b).1 hc), h3, h5⟩
  exact ⟨F3, h7, fun b => by rw [h8]; simp [h6]⟩
theorem Sub.pick {Rs pre rest : List Res} (i : Nat) {A : Res} (hi : Rs[i]? = some A) (h : Sub (Rs.eraseIdx i) pre rest) : Sub Rs (A :: pre) rest := by
  intro w F hF
  obtain ⟨F', h1, h2⟩ := hF.pick hi
  obtain ⟨F2, h3, h4⟩ := Sub.c0 (A := A) h w F' h1
  exact ⟨F2, h3, fun b => by rw [h4, h2]⟩
theorem Sub.c1 {B0 A : Res} {Rs pre rest : List Res} (h : Sub (B0 :: Rs) pre rest) : Sub (B0 :: A :: Rs) (A :: pre) rest := Sub.pick 1 rfl h
theorem Sub.c2 {B0 B1 A : Res} {Rs pre rest : List Res} (h : Sub (B0 :: B1 :: Rs) pre rest) : Sub (B0 :: B1 :: A :: Rs) (A :: pre) rest := Sub.pick 2 rfl h
theorem Sub.c3 {B0 B1 B2 A : Res} {Rs pre rest : List Res} (h : Sub (B0 :: B1 :: B2 :: Rs) pre rest) : Sub (B0 :: B1 :: B2 :: A :: Rs) (A :: pre) rest := Sub.pick 3 rfl h
theorem Sub.c4 {B0 B1 B2 B3 A : Res} {Rs pre rest : List Res} (h : Sub (B0 :: B1 :: B2 :: B3 :: Rs) pre rest) : Sub (B0 :: B1 :: B2 :: B3 :: A :: Rs) (A :: pre) rest := Sub.pick 4 rfl h
theorem Sub.c5 {B0 B1 B2 B3 B4 A : Res} {Rs pre rest : List Res} (h : Sub (B0 :: B1 :: B2 :: B3 :: B4 :: Rs) pre rest) : Sub (B0 :: B1 :: B2 :: B3 :: B4 :: A :: Rs) (A :: pre) rest := Sub.pick 5 rfl h
theorem Sub.c6 {B0 B1 B2 B3 B4 B5 A : Res} {Rs pre rest : List Res} (h : Sub (B0 :: B1 :: B2 :: B3 :: B4 :: B5 :: Rs) pre rest) : Sub (B0 :: B1 :: B2 :: B3 :: B4 :: B5 :: A :: Rs) (A :: pre) rest := Sub.pick 6 rfl h
theorem Sub.c7 {B0 B1 B2 B3 B4 B5 B6 A : Res} {Rs pre rest : List Res} (h : Sub (B0 :: B1 :: B2 :: B3 :: B4 :: B5 :: B6 :: Rs) pre rest) : Sub (B0 :: B1 :: B2 :: B3 :: B4 :: B5 :: B6 :: A :: Rs) (A :: pre) rest := Sub.pick 7 rfl h
theorem Sub.c8 {B0 B1 B2 B3 B4 B5 B6 B7 A : Res} {Rs pre rest : List Res} (h : Sub (B0 :: B1 :: B2 :: B3 :: B4 :: B5 :: B6 :: B7 :: Rs) pre rest) : Sub (B0 :: B1 :: B2 :: B3 :: B4 :: B5 :: B6 :: B7 :: A :: Rs) (A :: pre) rest := Sub.pick 8 rfl h
theorem Sub.c9 {B0 B1 B2 B3 B4 B5 B6 B7 B8 A : Res} {Rs pre rest : List Res} (h : Sub (B0 :: B1 :: B2 :: B3 :: B4 :: B5 :: B6 :: B7 :: B8 :: Rs) pre rest) : Sub (B0 :: B1 :: B2 :: B3 :: B4 :: B5 :: B6 :: B7 :: B8 :: A :: Rs) (A :: pre) rest := Sub.pick 9 rfl h
theorem Sub.c10 {B0 B1 B2 B3 B4 B5 B6 B7 B8 B9 A : Res} {Rs pre rest : List Res} (h : Sub (B0 :: B1 :: B2 :: B3 :: B4 :: B5 :: B6 :: B7 :: B8 :: B9 :: Rs) pre rest) : Sub (B0 :: B1 :: B2 :: B3 :: B4 :: B5 :: B6 :: B7 :: B8 :: B9 :: A :: Rs) (A :: pre) rest := Sub.pick 10 rfl h
theorem Sub.c11 {B0 B1 B2 B3 B4 B5 B6 B7 B8 B9 B10 A : Res} {Rs pre rest : List Res} (h : Sub (B0 :: B1 :: B2 :: B3 :: B4 :: B5 :: B6 :: B7 :: B8 :: B9 :: B10 :: Rs) pre rest) : Sub (B0 :: B1 :: B2 :: B3 :: B4 :: B5 :: B6 :: B7 :: B8 :: B9 :: B10 :: A :: Rs) (A :: pre) rest := Sub.pick 11 rfl h
theorem Sub.c12 {B0 B1 B2 B3 B4 B5 B6 B7 B8 B9 B10 B11 A : Res} {Rs pre rest : List Res} (h : Sub (B0 :: B1 :: B2 :: B3 :: B4 :: B5 :: B6 :: B7 :: B8 :: B9 :: B10 :: B11 :: Rs) pre rest) : Sub (B0 :: B1 :: B2 :: B3 :: B4 :: B5 :: B6 :: B7 :: B8 :: B9 :: B10 :: B11 :: A :: Rs) (A :: pre) rest := Sub.pick 12 rfl h
theorem Sub.c13 {B0 B1 B2 B3 B4 B5 B6 B7 B8 B9 B10 B11 B12 A : Res} {Rs pre rest : List Res} (h : Sub (B0 :: B1 :: B2 :: B3 :: B4 :: B5 :: B6 :: B7 :: B8 :: B9 :: B10 :: B11 :: B12 :: Rs) pre rest) : Sub (B0 :: B1 :: B2 :: B3 :: B4 :: B5 :: B6 :: B7 :: B8 :: B9 :: B10 :: B11 :: B12 :: A :: Rs) (A :: pre) rest := Sub.pick 13 rfl h
/-- What is held holds these; the others are let go. -/
def Weak (Rs T : List Res) : Prop := ∀ w F, Sat w Rs F → ∃ F', Sat w T F' ∧ ∀ b ∈ F', b ∈ F
theorem Weak.refl (Rs : List Res) : Weak Rs Rs := fun _ F h => ⟨F, h, fun _ hb => hb⟩
theorem Weak.drop {A : Res} {Rs T : List Res} (h : Weak Rs T) : Weak (A :: Rs) T := by
  rintro w F ⟨F1, F2, rfl, h2, h3, h4⟩
  obtain ⟨F', h5, h6⟩ := h w F2 h4
  exact ⟨F', h5, fun b hb => by simp [h6 b hb]⟩
theorem Weak.pick {Rs T : List Res} (i : Nat) {A : Res} (hi : Rs[i]? = some A) (h : Weak (Rs.eraseIdx i) T) : Weak Rs (A :: T) := by
  intro w F hF
  obtain ⟨F', ⟨F1, F2, rfl, h2, h3, h4⟩, h5⟩ := hF.pick hi
  obtain ⟨F3, h6, h7⟩ := h w F2 h4
  refine ⟨F1 ++ F3, ⟨F1, F3, rfl, fun b hb hc => h2 b hb (h7 b hc), h3, h6⟩, fun b hb => (h5 b).1 ?_⟩
  simp only [List.mem_append] at hb ⊢
  rcases hb with hb | hb
  · exact .inl hb
  · exact .inr (h7 b hb)
theorem Weak.c0 { A : Res} {Rs T : List Res} (h : Weak (Rs) T) : Weak (A :: Rs) (A :: T) := Weak.pick 0 rfl h
theorem Weak.c1 {B0 A : Res} {Rs T : List Res} (h : Weak (B0 :: Rs) T) : Weak (B0 :: A :: Rs) (A :: T) := Weak.pick 1 rfl h
theorem Weak.c2 {B0 B1 A : Res} {Rs T : List Res} (h : Weak (B0 :: B1 :: Rs) T) : Weak (B0 :: B1 :: A :: Rs) (A :: T) := Weak.pick 2 rfl h
theorem Weak.c3 {B0 B1 B2 A : Res} {Rs T : List Res} (h : Weak (B0 :: B1 :: B2 :: Rs) T) : Weak (B0 :: B1 :: B2 :: A :: Rs) (A :: T) := Weak.pick 3 rfl h
theorem Weak.c4 {B0 B1 B2 B3 A : Res} {Rs T : List Res} (h : Weak (B0 :: B1 :: B2 :: B3 :: Rs) T) : Weak (B0 :: B1 :: B2 :: B3 :: A :: Rs) (A :: T) := Weak.pick 4 rfl h
theorem Weak.c5 {B0 B1 B2 B3 B4 A : Res} {Rs T : List Res} (h : Weak (B0 :: B1 :: B2 :: B3 :: B4 :: Rs) T) : Weak (B0 :: B1 :: B2 :: B3 :: B4 :: A :: Rs) (A :: T) := Weak.pick 5 rfl h
theorem Weak.c6 {B0 B1 B2 B3 B4 B5 A : Res} {Rs T : List Res} (h : Weak (B0 :: B1 :: B2 :: B3 :: B4 :: B5 :: Rs) T) : Weak (B0 :: B1 :: B2 :: B3 :: B4 :: B5 :: A :: Rs) (A :: T) := Weak.pick 6 rfl h
theorem Weak.c7 {B0 B1 B2 B3 B4 B5 B6 A : Res} {Rs T : List Res} (h : Weak (B0 :: B1 :: B2 :: B3 :: B4 :: B5 :: B6 :: Rs) T) : Weak (B0 :: B1 :: B2 :: B3 :: B4 :: B5 :: B6 :: A :: Rs) (A :: T) := Weak.pick 7 rfl h
theorem Weak.c8 {B0 B1 B2 B3 B4 B5 B6 B7 A : Res} {Rs T : List Res} (h : Weak (B0 :: B1 :: B2 :: B3 :: B4 :: B5 :: B6 :: B7 :: Rs) T) : Weak (B0 :: B1 :: B2 :: B3 :: B4 :: B5 :: B6 :: B7 :: A :: Rs) (A :: T) := Weak.pick 8 rfl h
theorem Weak.c9 {B0 B1 B2 B3 B4 B5 B6 B7 B8 A : Res} {Rs T : List Res} (h : Weak (B0 :: B1 :: B2 :: B3 :: B4 :: B5 :: B6 :: B7 :: B8 :: Rs) T) : Weak (B0 :: B1 :: B2 :: B3 :: B4 :: B5 :: B6 :: B7 :: B8 :: A :: Rs) (A :: T) := Weak.pick 9 rfl h
theorem Weak.c10 {B0 B1 B2 B3 B4 B5 B6 B7 B8 B9 A : Res} {Rs T : List Res} (h : Weak (B0 :: B1 :: B2 :: B3 :: B4 :: B5 :: B6 :: B7 :: B8 :: B9 :: Rs) T) : Weak (B0 :: B1 :: B2 :: B3 :: B4 :: B5 :: B6 :: B7 :: B8 :: B9 :: A :: Rs) (A :: T) := Weak.pick 10 rfl h
theorem Weak.c11 {B0 B1 B2 B3 B4 B5 B6 B7 B8 B9 B10 A : Res} {Rs T : List Res} (h : Weak (B0 :: B1 :: B2 :: B3 :: B4 :: B5 :: B6 :: B7 :: B8 :: B9 :: B10 :: Rs) T) : Weak (B0 :: B1 :: B2 :: B3 :: B4 :: B5 :: B6 :: B7 :: B8 :: B9 :: B10 :: A :: Rs) (A :: T) := Weak.pick 11 rfl h
theorem Weak.c12 {B0 B1 B2 B3 B4 B5 B6 B7 B8 B9 B10 B11 A : Res} {Rs T : List Res} (h : Weak (B0 :: B1 :: B2 :: B3 :: B4 :: B5 :: B6 :: B7 :: B8 :: B9 :: B10 :: B11 :: Rs) T) : Weak (B0 :: B1 :: B2 :: B3 :: B4 :: B5 :: B6 :: B7 :: B8 :: B9 :: B10 :: B11 :: A :: Rs) (A :: T) := Weak.pick 12 rfl h
theorem Weak.c13 {B0 B1 B2 B3 B4 B5 B6 B7 B8 B9 B10 B11 B12 A : Res} {Rs T : List Res} (h : Weak (B0 :: B1 :: B2 :: B3 :: B4 :: B5 :: B6 :: B7 :: B8 :: B9 :: B10 :: B11 :: B12 :: Rs) T) : Weak (B0 :: B1 :: B2 :: B3 :: B4 :: B5 :: B6 :: B7 :: B8 :: B9 :: B10 :: B11 :: B12 :: A :: Rs) (A :: T) := Weak.pick 13 rfl h
section
variable {P : Program} {R : Ending → World → Prop} {Ks : Conts} {w0 w w' : World} {W : List Nat} {Rs pre post rest B : List Res} {A : Res}
theorem St.sub (h : St w0 W w Rs) (hs : Sub Rs pre rest) : St w0 W w (pre ++ rest) := by
  obtain ⟨h1, F, h2, h3⟩ := h
  obtain ⟨F', h4, h5⟩ := hs w F h2
  exact ⟨h1, F', h4, fun b hb => h3 b ((h5 b).1 hb)⟩
theorem St.weak {T : List Res} (h : St w0 W w Rs) (hs : Weak Rs T) : St w0 W w T := by
  obtain ⟨h1, F, h2, h3⟩ := h
  obtain ⟨F', h4, h5⟩ := hs w F h2
  exact ⟨h1, F', h4, fun b hb => h3 b (h5 b hb)⟩
theorem St.perm (h : St w0 W w Rs) (hs : Sub Rs pre []) : St w0 W w pre := by
  have := h.sub hs
  rwa [List.append_nil] at this
/-- Behind a call that only reads phi, and of what is held needs 'pre': it returns x, and 'pre' became 'post'. -/
def Con (P : Program) (phi : World → Prop) (f : FuncId) (as : Array Value) (k : Rk) (pre : List Res) (x : k.D) (post : List Res) : Prop :=
  ∀ (w0 : World) (W : List Nat) (w : World) (B : List Res), (∀ w', Keep W w0 w' → phi w') → St w0 W w (pre ++ B) → Calls P f as w fun e w' => e = .returned (k.v x) ∧ St w0 W w' (post ++ B)
/-- The same, where what it returns and leaves is said by a relation. -/
def ConE (P : Program) (phi : World → Prop) (f : FuncId) (as : Array Value) (k : Rk) (pre : List Res) (Q : k.D → List Res → Prop) : Prop :=
  ∀ (w0 : World) (W : List Nat) (w : World) (B : List Res), (∀ w', Keep W w0 w' → phi w') → St w0 W w (pre ++ B) → Calls P f as w fun e w' => ∃ x post, e = .returned (k.v x) ∧ Q x post ∧ St w0 W w' (post ++ B)
abbrev NoRo : World → Prop := fun _ => True
theorem Con.E {phi : World → Prop} {f : FuncId} {as : Array Value} {k : Rk} {x : k.D} (h : Con P phi f as k pre x post) : ConE P phi f as k pre (fun y q => y = x ∧ q = post) := fun w0 W w B hp hs =>
  (h w0 W w B hp hs).mono fun e w' he => ⟨x, post, he.1, ⟨rfl, rfl⟩, he.2⟩
theorem t_fn {phi : World → Prop} {f : FuncId} {as : Array Value} {k : Rk} {c : k.D → Tr} {x : k.D} (hf : Con P phi f as k pre x post) (h : St w0 W w Rs) (hs : Sub Rs pre rest) (hp : ∀ w', Keep W w0 w' → phi w')
    (hc : ∀ w', St w0 W w' (post ++ rest) → (c x).wp P R Ks w') : (Tr.call f as k c).wp P R Ks w :=
  t_callS (hf w0 W w rest hp (h.sub hs)) hc
theorem t_fnn {phi : World → Prop} {f : FuncId} {as : Array Value} {k : Rk} {c : k.D → Tr} {x : k.D} (hf : Con P phi f as k pre x post) (h : St w0 W w Rs) (hs : Sub Rs pre rest) (hp : ∀ w', Keep W w0 w' → phi w')
    (hc : ∀ w', St w0 W w' (post ++ rest) → (c x).wp P R Ks w') : (Tr.calln f as k c).wp P R Ks w :=
  t_callnS (hf w0 W w rest hp (h.sub hs)) hc
theorem t_fnv {phi : World → Prop} {np : Bool} {g : FuncId} {first caps as args : Array Value} {k : Rk} {c : k.D → Tr} {x : k.D} (hf : Con P phi g args k pre x post) (h : St w0 W w Rs) (hs : Sub Rs pre rest) (hp : ∀ w', Keep W w0 w' → phi w')
    (hg : ∀ args w, (callFunc g args).run P w = .ok (.enter g args) w) (has : first ++ as ++ caps = args)
    (hc : ∀ w', St w0 W w' (post ++ rest) → (c x).wp P R Ks w') : (Tr.callv np (.func (.func g) first caps) as k c).wp P R Ks w :=
  t_callvS hg has (hf w0 W w rest hp (h.sub hs)) hc
theorem t_fnE {phi : World → Prop} {f : FuncId} {as : Array Value} {k : Rk} {c : k.D → Tr} {Q : k.D → List Res → Prop} (hf : ConE P phi f as k pre Q) (h : St w0 W w Rs) (hs : Sub Rs pre rest) (hp : ∀ w', Keep W w0 w' → phi w')
    (hc : ∀ x post, Q x post → ∀ w', St w0 W w' (post ++ rest) → (c x).wp P R Ks w') : (Tr.call f as k c).wp P R Ks w :=
  t_call (hf w0 W w rest hp (h.sub hs)) fun e w' ⟨x, post, he, hq, hst⟩ => ⟨x, he, hc x post hq w' hst⟩
theorem t_fnnE {phi : World → Prop} {f : FuncId} {as : Array Value} {k : Rk} {c : k.D → Tr} {Q : k.D → List Res → Prop} (hf : ConE P phi f as k pre Q) (h : St w0 W w Rs) (hs : Sub Rs pre rest) (hp : ∀ w', Keep W w0 w' → phi w')
    (hc : ∀ x post, Q x post → ∀ w', St w0 W w' (post ++ rest) → (c x).wp P R Ks w') : (Tr.calln f as k c).wp P R Ks w :=
  t_calln (hf w0 W w rest hp (h.sub hs)) fun e w' ⟨x, post, he, hq, hst⟩ => ⟨x, he, hc x post hq w' hst⟩
theorem noRo : ∀ w', Keep W w0 w' → NoRo w' := fun _ _ => trivial
/-- What is read alone may be lent. -/
theorem Con.lend {phi : World → Prop} {f : FuncId} {as : Array Value} {k : Rk} {x : k.D} {s : Sl} {E sz : Nat} {cs : List Value} (h : Con P (fun w => phi w ∧ Rd w s sz cs) f as k pre x post) : Con P phi f as k (ownR s E sz cs :: pre) x (ownR s E sz cs :: post) := by
  intro w0 W w B hp hs
  obtain ⟨W', F, hk, hst, hback⟩ := St.lend (by simpa using hs)
  have hkk := hs.kept
  refine (h w W' w B (fun w' hw' => ⟨hp w' (hback w' [] ⟨hw', ⟨[], rfl, by simp⟩⟩).kept, Own.rd (hk w' hw')⟩) hst).mono fun e w' he => ⟨he.1, by simpa using hback w' _ he.2⟩
theorem ConE.lend {phi : World → Prop} {f : FuncId} {as : Array Value} {k : Rk} {Q : k.D → List Res → Prop} {s : Sl} {E sz : Nat} {cs : List Value} (h : ConE P (fun w => phi w ∧ Rd w s sz cs) f as k pre Q) : ConE P phi f as k (ownR s E sz cs :: pre) (fun x q => ∃ q', q = ownR s E sz cs :: q' ∧ Q x q') := by
  intro w0 W w B hp hs
  obtain ⟨W', F, hk, hst, hback⟩ := St.lend (by simpa using hs)
  refine (h w W' w B (fun w' hw' => ⟨hp w' (hback w' [] ⟨hw', ⟨[], rfl, by simp⟩⟩).kept, Own.rd (hk w' hw')⟩) hst).mono fun e w' he => ?_
  · obtain ⟨x, q, h1, h2, h3⟩ := he
    exact ⟨x, _, h1, ⟨q, rfl, h2⟩, by simpa using hback w' _ h3⟩
theorem ConE.ro {phi psi : World → Prop} {f : FuncId} {as : Array Value} {k : Rk} {Q : k.D → List Res → Prop} (h : ConE P phi f as k pre Q) (hi : ∀ w, psi w → phi w) : ConE P psi f as k pre Q := fun w0 W w B hp hs => h w0 W w B (fun w' hw => hi w' (hp w' hw)) hs
theorem Con.ro {phi psi : World → Prop} {f : FuncId} {as : Array Value} {k : Rk} {x : k.D} (h : Con P phi f as k pre x post) (hi : ∀ w, psi w → phi w) : Con P psi f as k pre x post := fun w0 W w B hp hs => h w0 W w B (fun w' hw => hi w' (hp w' hw)) hs
/-- Read-only too: a literal's block. -/
theorem Own.of_blk {b T n : Nat} {cs : List Value} {sz : Nat} (h : Blk w b cs T) (hl : cs.length = n * sz) : Own w ⟨.some ⟨b, 0, none⟩, n, n⟩ T sz cs [b] :=
  Own.fresh b cs rfl h hl (Nat.le_refl _) (by dsimp only; omega) (by simp)
theorem St.blkOwn {b T : Nat} {cs : List Value} (n sz : Nat) (h : St w0 W w (blkR b cs T :: B)) (hl : cs.length = n * sz) : St w0 W w (ownR ⟨some ⟨b, 0, none⟩, n, n⟩ T sz cs :: B) := by
  obtain ⟨F, ⟨hF, hb⟩, hu⟩ := h.upd
  subst hF
  exact hu (ownR _ _ _ _) w [b] (Keep.refl _ _) (Own.of_blk hb hl) (by simp)
end
end Go.Proofs.YthfcneahnldgnaaGreat.Vk
