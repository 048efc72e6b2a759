/- Vk, part 13: what a law's arguments hold, out of their readings; that what is only read stays. -/
import Derived.Test.YthfcneahnldgnaaGreatVkSpec
import Derived.WalkKit
import Derived.ProofKit
import Derived.Below
namespace Go.Proofs.YthfcneahnldgnaaGreat.Vk
open Go
set_option linter.unusedSimpArgs false
set_option linter.unusedVariables false
/-- The shape of cells of a type. -/
def Shp (P : Program) (W : World) : Nat → TypeId → List Value → Prop
  | 0, _, _ => False
  | d + 1, t, cs => match P.underlying t with
    | some .bool => ∃ b, cs = [.bool b]
    | some (.int k) => ∃ n, cs = [.int k n] ∧ (Lit.int k n).wf = true
    | some .string => ∃ s : ByteArray, cs = [.string s] ∧ s.size ≤ maxLen
    | some (.slice e) => ∃ s : Sl, cs = [.slice s.a s.n s.c] ∧ s.n ≤ s.c ∧ s.c ≤ maxLen ∧ (s.a = none → s.n = 0) ∧ ∀ a, s.a = some a → ∀ i, i < s.n → ∃ es : List Value, es.length = P.cellsOf e ∧ (∀ j v, es[j]? = some v → W.cell? (a.add (i * P.cellsOf e + j)) = some v) ∧ Shp P W d e es
    | some (.struct fs) => cs.length = P.cellsOf t ∧ ∀ f ∈ fs.toList, Shp P W d f.type ((cs.drop f.offset).take (P.cellsOf f.type))
    | _ => True
theorem mapM_some {α β : Type} {f : α → Option β} : ∀ {l : List α} {r : List β}, l.mapM f = some r → r.length = l.length ∧ ∀ (i : Nat) (x : α), l[i]? = some x → ∃ y, r[i]? = some y ∧ f x = some y
  | [], r, h => by simp at h; subst h; simp
  | a :: l, r, h => by
    rw [List.mapM_cons] at h
    obtain ⟨y, hy, h⟩ := Option.bind_eq_some_iff.1 h
    obtain ⟨ys, hys, h⟩ := Option.bind_eq_some_iff.1 h
    simp at h
    subst h
    obtain ⟨h1, h2⟩ := mapM_some hys
    refine ⟨by simp [h1], fun i x hx => ?_⟩
    cases i with
    | zero => simp at hx; subst hx; exact ⟨y, by simp, hy⟩
    | succ i => simpa using h2 i x (by simpa using hx)
theorem cells?_some {w : World} {base : Nat} {a : Addr} {n : Nat} {es : List Value} (h : w.cells? base a n = some es) : es.length = n ∧ ∀ j v, es[j]? = some v → w.cell? (a.add j) = some v := by
  unfold World.cells? at h
  split at h
  · obtain ⟨h1, h2⟩ := mapM_some h
    refine ⟨by simpa using h1, fun j v hj => ?_⟩
    have hlt : j < n := by
      rcases Nat.lt_or_ge j n with h' | h'
      · exact h'
      · rw [List.getElem?_eq_none (by rw [h1]; simpa using h')] at hj; cases hj
    obtain ⟨y, hy, hc⟩ := h2 j j (by simp [hlt])
    rw [hj] at hy; cases hy
    exact hc
  · cases h
theorem shp_of_trod {H : Type} {enc : TypeId × Value → H} {P : Program} {W : World} {base : Nat} {sp : Nat → Bool} {held : Bool} : ∀ (d : Nat) (t : TypeId) (cs : List Value) (x : DataW H × List MemPlace), DataW.trod enc P W base sp held d t cs = some x → Shp P W d t cs
  | 0, _, _, _, h => by simp [DataW.trod] at h
  | d + 1, t, cs, x, h => by
    have ih := shp_of_trod (enc := enc) (P := P) (W := W) (base := base) (sp := sp) (held := held) d
    unfold Shp
    unfold DataW.trod at h
    cases hu : P.underlying t with
    | none => trivial
    | some u =>
      rw [hu] at h
      cases u <;> dsimp only <;> try trivial
      case bool =>
        rcases cs with _ | ⟨v, _ | ⟨v2, r⟩⟩
        · simp at h
        · cases v <;> simp at h
          exact ⟨_, rfl⟩
        · simp at h
      case int k =>
        rcases cs with _ | ⟨v, _ | ⟨v2, r⟩⟩
        · simp at h
        · cases v <;> simp at h
          obtain ⟨⟨rfl, hw⟩, _⟩ := h
          exact ⟨_, rfl, hw⟩
        · simp at h
      case string =>
        rcases cs with _ | ⟨v, _ | ⟨v2, r⟩⟩
        · simp at h
        · cases v <;> simp at h
          exact ⟨_, rfl, h.1⟩
        · simp at h
      case slice e =>
        rcases cs with _ | ⟨v, _ | ⟨v2, r⟩⟩
        · simp at h
        · cases v <;> try (simp at h)
          rename_i a n c
          cases a with
          | none =>
            cases n <;> cases c <;> simp at h
            exact ⟨⟨none, 0, 0⟩, rfl, Nat.le_refl _, Nat.zero_le _, fun _ => rfl, fun a ha => by cases ha⟩
          | some a =>
            simp only at h
            split at h
            · rename_i hc
              obtain ⟨elems, he, h⟩ := Option.bind_eq_some_iff.1 h
              obtain ⟨h1, h2⟩ := mapM_some he
              refine ⟨⟨some a, n, c⟩, rfl, hc.2.1, hc.2.2, (fun h => by cases h), fun a' ha' i hi => ?_⟩
              cases ha'
              obtain ⟨y, _, hy⟩ := h2 i i (by simp [hi])
              obtain ⟨es, he1, he2⟩ := Option.bind_eq_some_iff.1 hy
              obtain ⟨h3, h4⟩ := cells?_some he1
              exact ⟨es, h3, fun j v hj => by have := h4 j v hj; rwa [Addr.add_add] at this, ih _ _ _ he2⟩
            · cases h
        · simp at h
      case struct fs =>
        dsimp only at h
        split at h
        · rename_i hc
          refine ⟨hc, fun f hf => ?_⟩
          obtain ⟨xs, hx, _⟩ := Option.map_eq_some_iff.1 h
          obtain ⟨h1, h2⟩ := mapM_some hx
          obtain ⟨i, hi⟩ := List.getElem?_of_mem hf
          obtain ⟨y, _, hy⟩ := h2 i f hi
          exact ih _ _ _ hy
        · cases h
/-! ### Taking shapes apart -/
theorem Shp.int {P : Program} {W : World} {d : Nat} {t : TypeId} {cs : List Value} {k : IntKind} (h : Shp P W d t cs) (hu : P.underlying t = some (.int k)) : ∃ n, cs = [.int k n] ∧ (Lit.int k n).wf = true := by
  cases d with
  | zero => exact h.elim
  | succ d => unfold Shp at h; rw [hu] at h; exact h
theorem Shp.bool {P : Program} {W : World} {d : Nat} {t : TypeId} {cs : List Value} (h : Shp P W d t cs) (hu : P.underlying t = some .bool) : ∃ b, cs = [.bool b] := by
  cases d with
  | zero => exact h.elim
  | succ d => unfold Shp at h; rw [hu] at h; exact h
theorem Shp.str {P : Program} {W : World} {d : Nat} {t : TypeId} {cs : List Value} (h : Shp P W d t cs) (hu : P.underlying t = some .string) : ∃ s : ByteArray, cs = [.string s] ∧ s.size ≤ maxLen := by
  cases d with
  | zero => exact h.elim
  | succ d => unfold Shp at h; rw [hu] at h; exact h
theorem Shp.struct {P : Program} {W : World} {d : Nat} {t : TypeId} {cs : List Value} {fs : Array Field} (h : Shp P W d t cs) (hu : P.underlying t = some (.struct fs)) : cs.length = P.cellsOf t ∧ ∃ d', ∀ f ∈ fs.toList, Shp P W d' f.type ((cs.drop f.offset).take (P.cellsOf f.type)) := by
  cases d with
  | zero => exact h.elim
  | succ d => unfold Shp at h; rw [hu] at h; exact ⟨h.1, d, h.2⟩
/-- A slice's elements, each said by a datum. -/
theorem Shp.slice {P : Program} {W : World} {d : Nat} {t e : TypeId} {cs : List Value} (h : Shp P W d t cs) (hu : P.underlying t = some (.slice e)) {α : Type} (cells : α → List Value) (good : α → Prop) (sz : Nat) (hsz : P.cellsOf e = sz) (hne : Nonempty α)
    (hx : ∀ d' es, Shp P W d' e es → ∃ x, es = cells x ∧ good x) : ∃ (s : Sl) (l : List α), cs = [.slice s.a s.n s.c] ∧ l.length = s.n ∧ s.n ≤ s.c ∧ s.c ≤ maxLen ∧ Rd W s sz (l.flatMap cells) ∧ ∀ x ∈ l, good x := by
  subst hsz
  cases d with
  | zero => exact h.elim
  | succ d =>
    unfold Shp at h
    rw [hu] at h
    obtain ⟨s, rfl, h1, h2, h3, h4⟩ := h
    refine ⟨s, ?_⟩
    cases ha : s.a with
    | none =>
      have hn := h3 ha
      exact ⟨[], rfl, by rw [hn]; rfl, h1, h2, ⟨by rw [hn]; simp, fun hp => by omega⟩, by simp⟩
    | some a =>
      have h5 := h4 a ha
      have h6 : ∀ i, ∃ x : α, i < s.n → (cells x).length = P.cellsOf e ∧ (∀ j v, (cells x)[j]? = some v → W.cell? (a.add (i * P.cellsOf e + j)) = some v) ∧ good x := by
        intro i
        by_cases hi : i < s.n
        · obtain ⟨es, e1, e2, e3⟩ := h5 i hi
          obtain ⟨x, rfl, hg⟩ := hx d es e3
          exact ⟨x, fun _ => ⟨e1, e2, hg⟩⟩
        · obtain ⟨x0⟩ := hne
          exact ⟨x0, fun h => absurd h hi⟩
      obtain ⟨f, hf⟩ := Classical.axiomOfChoice h6
      refine ⟨(List.range s.n).map f, rfl, by simp, h1, h2, ?_, ?_⟩
      · have key : ∀ m k, k + m ≤ s.n → (((List.range' k m).map f).flatMap cells).length = m * P.cellsOf e ∧ ∀ j v, (((List.range' k m).map f).flatMap cells)[j]? = some v → W.cell? (a.add (k * P.cellsOf e + j)) = some v := by
          intro m
          induction m with
          | zero => intro k _; simp
          | succ m ih =>
            intro k hk
            obtain ⟨g1, g2⟩ := ih (k + 1) (by omega)
            obtain ⟨f1, f2, _⟩ := hf k (by omega)
            rw [List.range'_succ, List.map_cons, List.flatMap_cons]
            refine ⟨by rw [List.length_append, g1, f1, Nat.add_mul]; omega, fun j v hj => ?_⟩
            rcases Nat.lt_or_ge j (cells (f k)).length with hlt | hge
            · rw [List.getElem?_append_left hlt] at hj
              exact f2 j v hj
            · rw [List.getElem?_append_right hge] at hj
              have := g2 _ v hj
              rw [Nat.add_mul, f1] at this
              rw [f1] at hge
              have e : k * P.cellsOf e + 1 * P.cellsOf e + (j - P.cellsOf e) = k * P.cellsOf e + j := by omega
              rwa [e] at this
        obtain ⟨k1, k2⟩ := key s.n 0 (by omega)
        rw [← List.range_eq_range'] at k1 k2
        exact ⟨k1, fun _ => ⟨a, ha, fun j v hj => by have := k2 j v hj; simpa using this⟩⟩
      · intro x hx'
        obtain ⟨i, hi, rfl⟩ := List.mem_map.1 hx'
        exact (hf i (List.mem_range.1 hi)).2.2
/-! ### Structs, leaf by leaf -/
def leafB (P : Program) (t : TypeId) : Bool := match P.underlying t with
  | some .bool => true
  | some (.int _) => true
  | some .string => true
  | some (.slice _) => true
  | _ => false
def leavesF (P : Program) (g : TypeId → Option (List TypeId)) : Nat → List Field → Option (List TypeId)
  | _, [] => some []
  | i, f :: fs => match Nat.beq f.offset i, g f.type, leavesF P g (i + P.cellsOf f.type) fs with
    | true, some a, some b => if a.length = P.cellsOf f.type then some (a ++ b) else none
    | _, _, _ => none
def leavesOf (P : Program) : Nat → TypeId → Option (List TypeId)
  | 0, _ => none
  | n + 1, t => match P.underlying t with
    | some (.struct fs) => match leavesF P (leavesOf P n) 0 fs.toList with
      | some ts => if ts.length = P.cellsOf t then some ts else none
      | none => none
    | _ => if leafB P t then some [t] else none
def AllShp (P : Program) (W : World) : List TypeId → List Value → Prop
  | [], [] => True
  | t :: ts, v :: vs => (∃ d, Shp P W d t [v]) ∧ AllShp P W ts vs
  | _, _ => False
theorem AllShp.append {P : Program} {W : World} : ∀ {ts us : List TypeId} {cs ds : List Value}, AllShp P W ts cs → AllShp P W us ds → AllShp P W (ts ++ us) (cs ++ ds)
  | [], us, [], ds, _, h => h
  | [], us, _ :: _, ds, h, _ => h.elim
  | _ :: _, us, [], ds, h, _ => h.elim
  | t :: ts, us, c :: cs, ds, h, h' => ⟨h.1, AllShp.append h.2 h'⟩
theorem shp_leaf {P : Program} {W : World} {d : Nat} {t : TypeId} {cs : List Value} (h : Shp P W d t cs) (hl : leafB P t = true) : ∃ v, cs = [v] := by
  cases d with
  | zero => exact h.elim
  | succ d =>
    unfold Shp at h
    unfold leafB at hl
    split at hl
    · rename_i hu; rw [hu] at h; obtain ⟨b, rfl⟩ := h; exact ⟨_, rfl⟩
    · rename_i hu; rw [hu] at h; obtain ⟨n, rfl, _⟩ := h; exact ⟨_, rfl⟩
    · rename_i hu; rw [hu] at h; obtain ⟨s, rfl, _⟩ := h; exact ⟨_, rfl⟩
    · rename_i hu; rw [hu] at h; obtain ⟨s, rfl, _⟩ := h; exact ⟨_, rfl⟩
    · cases hl
theorem leavesF_shp {P : Program} {W : World} {d : Nat} {g : TypeId → Option (List TypeId)} {cs : List Value} (hg : ∀ t ts cs, g t = some ts → Shp P W d t cs → AllShp P W ts cs) : ∀ (fs : List Field) (i : Nat) (ts : List TypeId), leavesF P g i fs = some ts → (∀ f ∈ fs, Shp P W d f.type ((cs.drop f.offset).take (P.cellsOf f.type))) → AllShp P W ts ((cs.drop i).take ts.length)
  | [], i, ts, h, _ => by simp [leavesF] at h; subst h; simp [AllShp]
  | f :: fs, i, ts, h, hf => by
    unfold leavesF at h
    split at h
    · rename_i a b h1 h2 h3
      split at h
      · rename_i hl
        cases h
        have hoff := Nat.eq_of_beq_eq_true h1
        have e1 := hg _ _ _ h2 (hf f (by simp))
        have e2 := leavesF_shp hg fs _ _ h3 fun x hx => hf x (by simp [hx])
        rw [List.length_append, List.take_add, List.drop_drop, hl]
        rw [hoff] at e1
        exact e1.append e2
      · cases h
    · cases h
theorem Shp.leaves {P : Program} {W : World} : ∀ {n d : Nat} {t : TypeId} {ts : List TypeId} {cs : List Value}, leavesOf P n t = some ts → Shp P W d t cs → AllShp P W ts cs
  | 0, _, _, _, _, h, _ => by simp [leavesOf] at h
  | n + 1, d, t, ts, cs, h, hs => by
    unfold leavesOf at h
    split at h
    · rename_i fs hu
      split at h
      · rename_i ts' ht
        split at h
        · rename_i hl
          cases h
          obtain ⟨h1, d', h2⟩ := hs.struct hu
          have := leavesF_shp (fun t ts cs h h' => Shp.leaves (n := n) h h') fs.toList 0 _ ht h2
          rw [List.drop_zero, List.take_of_length_le (by omega)] at this
          exact this
        · cases h
      · cases h
    · split at h
      · rename_i hl
        cases h
        obtain ⟨v, rfl⟩ := shp_leaf hs hl
        exact ⟨⟨d, hs⟩, trivial⟩
      · cases h
theorem AllShp.cons {P : Program} {W : World} {t : TypeId} {ts : List TypeId} {cs : List Value} (h : AllShp P W (t :: ts) cs) : ∃ v vs, cs = v :: vs ∧ (∃ d, Shp P W d t [v]) ∧ AllShp P W ts vs := by
  cases cs with
  | nil => exact h.elim
  | cons v vs => exact ⟨v, vs, rfl, h.1, h.2⟩
theorem AllShp.nil {P : Program} {W : World} {cs : List Value} (h : AllShp P W [] cs) : cs = [] := by
  cases cs with
  | nil => rfl
  | cons v vs => exact h.elim
theorem AllShp.int {P : Program} {W : World} {t : TypeId} {ts : List TypeId} {cs : List Value} (h : AllShp P W (t :: ts) cs) (hu : P.underlying t = some (.int .i64)) : ∃ n vs, cs = .int .i64 n :: vs ∧ (-9223372036854775808 ≤ n ∧ n ≤ 9223372036854775807) ∧ AllShp P W ts vs := by
  obtain ⟨v, vs, rfl, ⟨d, hd⟩, h2⟩ := h.cons
  obtain ⟨n, hn, hw⟩ := hd.int hu
  injection hn with hn; subst hn
  refine ⟨n, vs, rfl, ?_, h2⟩
  simp only [Lit.wf, Bool.and_eq_true, decide_eq_true_eq] at hw
  exact hw
theorem AllShp.bool {P : Program} {W : World} {t : TypeId} {ts : List TypeId} {cs : List Value} (h : AllShp P W (t :: ts) cs) (hu : P.underlying t = some .bool) : ∃ b vs, cs = .bool b :: vs ∧ AllShp P W ts vs := by
  obtain ⟨v, vs, rfl, ⟨d, hd⟩, h2⟩ := h.cons
  obtain ⟨n, hn⟩ := hd.bool hu
  injection hn with hn; subst hn
  exact ⟨n, vs, rfl, h2⟩
theorem AllShp.str {P : Program} {W : World} {t : TypeId} {ts : List TypeId} {cs : List Value} (h : AllShp P W (t :: ts) cs) (hu : P.underlying t = some .string) : ∃ s vs, cs = .string s :: vs ∧ s.size ≤ maxLen ∧ AllShp P W ts vs := by
  obtain ⟨v, vs, rfl, ⟨d, hd⟩, h2⟩ := h.cons
  obtain ⟨n, hn, hm⟩ := hd.str hu
  injection hn with hn; subst hn
  exact ⟨n, vs, rfl, hm, h2⟩
theorem Rd.keep {W W' : World} {s : Sl} {sz : Nat} {cs : List Value} (h : Rd W s sz cs) (hk : Keep [] W W') : Rd W' s sz cs := by
  refine ⟨h.len, fun hn => ?_⟩
  obtain ⟨a, ha, hc⟩ := h.at_ hn
  refine ⟨a, ha, fun j v hj => ?_⟩
  have h1 := hc j v hj
  unfold World.cell? at h1 ⊢
  have hlt : (a.add j).block < W.heap.size := by
    rcases Nat.lt_or_ge (a.add j).block W.heap.size with h' | h'
    · exact h'
    · rw [Array.getElem?_eq_none h'] at h1; simp at h1
  rw [hk.blk _ hlt (by simp)]
  exact h1
theorem below_of_keep {w w' : World} (h : Keep [] w w') : RowKit.Below w.heap.size w w' := ⟨h.os, h.tape, h.output, h.size, fun b hb => h.blk b hb (by simp)⟩
end Go.Proofs.YthfcneahnldgnaaGreat.Vk
