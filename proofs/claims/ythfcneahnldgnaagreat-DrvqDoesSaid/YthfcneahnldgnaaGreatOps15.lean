/- The drvq statements' own helpers: parts, used; equality of lists of numbers; an op's cells. -/
import Derived.Test.YthfcneahnldgnaaGreatClone15
import Derived.Test.YthfcneahnldgnaaGreatDrvqFull
import Derived.Test.YthfcneahnldgnaaGreatVkShp
namespace Go.Proofs.YthfcneahnldgnaaGreat
open Go Vk
set_option linter.unusedSimpArgs false
set_option linter.unusedVariables false
namespace M
structure Op where
  kind : Int
  at_ : Int
  id : Int
  n : Int
  parts : Sl
  ps : List Part
  s : List UInt8
  off : Int
  ew : Bool
  fl : Int
  wrap : Bool
def usedB (n id : Int) (w : Bool) : List UInt8 := (buildB ⟨0, IntKind.u32.wrap n, band .i64 id 65535, mark 0 w true⟩).drop 8
end M
def Op.cells (o : M.Op) : List Value := [.int .i64 o.kind, .int .i64 o.at_, .int .i64 o.id, .int .i64 o.n, .slice o.parts.a o.parts.n o.parts.c, .string (mkB o.s), .int .i64 o.off, .bool o.ew, .int .i64 o.fl, .bool o.wrap]
structure Op.Good (W : World) (o : M.Op) : Prop where
  rd : Rd W o.parts 3 (partsV o.ps)
  cap : o.parts.n ≤ o.parts.c ∧ o.parts.c ≤ 9223372036854775807
  ps : ∀ p ∈ o.ps, i64R p.at_ ∧ i64R p.n
  at_ : i64R o.at_
  n : i64R o.n
  s : o.s.length ≤ 9223372036854775807
theorem rd_take {w : World} {s : Sl} {sz : Nat} {cs : List Value} (h : Rd w s sz cs) {k : Nat} (hk : k ≤ s.n) (c : Nat) : Rd w ⟨slB s.a 0 sz s.c, k, c⟩ sz (cs.take (k * sz)) := by
  have hl := h.len
  have hle : k * sz ≤ s.n * sz := Nat.mul_le_mul_right _ hk
  refine ⟨by rw [List.length_take, hl]; dsimp only; omega, fun hn => ?_⟩
  obtain ⟨a, ha, hc⟩ := h.at_ (by dsimp only at hn; omega)
  refine ⟨a, ?_, fun j v hj => ?_⟩
  · dsimp only; unfold slB; rw [ha]; split
    · rfl
    · simp [Addr.add]
  · rw [List.getElem?_take] at hj
    split at hj
    · exact hc j v hj
    · cases hj
theorem partsV_take (ps : List M.Part) (k : Nat) : (partsV ps).take (k * 3) = partsV (ps.take k) := by
  induction ps generalizing k with
  | nil => simp [partsV]
  | cons p ps ih =>
    cases k with
    | zero => simp [partsV]
    | succ k =>
      have e : (k + 1) * 3 = 3 + k * 3 := by omega
      rw [e, List.take_succ_cons]
      show (Part.cells p ++ partsV ps).take (3 + k * 3) = Part.cells p ++ partsV (ps.take k)
      rw [List.take_append, List.take_of_length_le (by simp [Part.cells])]
      congr 1
      have : 3 + k * 3 - (Part.cells p).length = k * 3 := by simp [Part.cells]
      rw [this, ih]
theorem parts_con {W0 : World} (o : M.Op) (hg : Op.Good W0 o) : Con Tryz.prog NoRo 6 #[.agg (Op.cells o).toArray] .L [] ⟨slB o.parts.a 0 3 o.parts.c, (imn (o.parts.n : Int) 70).toNat, o.parts.c⟩ [] := by
  intro w0 W w B _ h
  refine aqueductlaw15_parts.calls (o.kind, o.at_, o.id, o.n, o.parts, mkB o.s, o.off, o.ew, o.fl, o.wrap, ()) ?_
  unfold aqueductlaw15_parts.T
  have hc := hg.cap
  repeat (first
    | refine t_tickS h fun w h => ?_
    | refine t_keepN ?_
    | refine t_ldB h 0 rfl rfl ?_
    | refine t_ldB h 1 rfl rfl ?_
    | refine t_ldB h 2 rfl rfl ?_
    | refine t_ldB h 3 rfl rfl ?_
    | refine t_ldB h 4 rfl rfl ?_
    | refine t_ldB h 5 rfl rfl ?_
    | refine t_ldB h 6 rfl rfl ?_
    | refine t_ldB h 7 rfl rfl ?_
    | refine t_ldB h 8 rfl rfl ?_
    | refine t_ldB h 9 rfl rfl ?_
    | refine t_ldO h 0 rfl rfl rfl ?_
    | refine t_ldO h 1 rfl rfl rfl ?_
    | refine t_ldO h 2 rfl rfl rfl ?_
    | refine t_ldO h 3 rfl rfl rfl ?_
    | refine t_ldO h 4 rfl rfl rfl ?_
    | refine t_ldO h 5 rfl rfl rfl ?_
    | refine t_ldO h 6 rfl rfl rfl ?_
    | refine t_ldO h 7 rfl rfl rfl ?_
    | refine t_ldO h 8 rfl rfl rfl ?_
    | refine t_ldO h 9 rfl rfl rfl ?_
    | refine t_keepB h 0 rfl rfl ?_
    | refine t_keepB h 1 rfl rfl ?_
    | refine t_keepB h 2 rfl rfl ?_
    | refine t_keepB h 3 rfl rfl ?_
    | refine t_keepB h 4 rfl rfl ?_
    | refine t_keepB h 5 rfl rfl ?_
    | refine t_keepB h 6 rfl rfl ?_
    | refine t_keepB h 7 rfl rfl ?_
    | refine t_keepB h 8 rfl rfl ?_
    | refine t_keepB h 9 rfl rfl ?_
    | (refine t_stB h 0 rfl (by simp [setL]) (by simp [Value.oneCell']) fun w h => ?_; try dsimp only [List.set, setL, List.eraseIdx, List.cons_append, List.nil_append, List.append_nil, Nat.zero_add, Nat.reduceAdd, Sl.v] at h)
    | (refine t_stB h 1 rfl (by simp [setL]) (by simp [Value.oneCell']) fun w h => ?_; try dsimp only [List.set, setL, List.eraseIdx, List.cons_append, List.nil_append, List.append_nil, Nat.zero_add, Nat.reduceAdd, Sl.v] at h)
    | (refine t_stB h 2 rfl (by simp [setL]) (by simp [Value.oneCell']) fun w h => ?_; try dsimp only [List.set, setL, List.eraseIdx, List.cons_append, List.nil_append, List.append_nil, Nat.zero_add, Nat.reduceAdd, Sl.v] at h)
    | (refine t_stB h 3 rfl (by simp [setL]) (by simp [Value.oneCell']) fun w h => ?_; try dsimp only [List.set, setL, List.eraseIdx, List.cons_append, List.nil_append, List.append_nil, Nat.zero_add, Nat.reduceAdd, Sl.v] at h)
    | (refine t_stB h 4 rfl (by simp [setL]) (by simp [Value.oneCell']) fun w h => ?_; try dsimp only [List.set, setL, List.eraseIdx, List.cons_append, List.nil_append, List.append_nil, Nat.zero_add, Nat.reduceAdd, Sl.v] at h)
    | (refine t_stB h 5 rfl (by simp [setL]) (by simp [Value.oneCell']) fun w h => ?_; try dsimp only [List.set, setL, List.eraseIdx, List.cons_append, List.nil_append, List.append_nil, Nat.zero_add, Nat.reduceAdd, Sl.v] at h)
    | (refine t_stB h 6 rfl (by simp [setL]) (by simp [Value.oneCell']) fun w h => ?_; try dsimp only [List.set, setL, List.eraseIdx, List.cons_append, List.nil_append, List.append_nil, Nat.zero_add, Nat.reduceAdd, Sl.v] at h)
    | (refine t_stB h 7 rfl (by simp [setL]) (by simp [Value.oneCell']) fun w h => ?_; try dsimp only [List.set, setL, List.eraseIdx, List.cons_append, List.nil_append, List.append_nil, Nat.zero_add, Nat.reduceAdd, Sl.v] at h)
    | (refine t_stB h 8 rfl (by simp [setL]) (by simp [Value.oneCell']) fun w h => ?_; try dsimp only [List.set, setL, List.eraseIdx, List.cons_append, List.nil_append, List.append_nil, Nat.zero_add, Nat.reduceAdd, Sl.v] at h)
    | (refine t_stB h 9 rfl (by simp [setL]) (by simp [Value.oneCell']) fun w h => ?_; try dsimp only [List.set, setL, List.eraseIdx, List.cons_append, List.nil_append, List.append_nil, Nat.zero_add, Nat.reduceAdd, Sl.v] at h)
    | refine t_newB h (by simp [Value.oneCell']) fun w b h hb => ?_
    | refine t_nil ?_
    | refine t_true rfl ?_
    | refine t_false rfl ?_
    | refine t_yes rfl ?_
    | refine t_nyes rfl ?_
    | refine t_no (by decide) ?_
    | refine t_nno (by decide) ?_
    | refine t_need (by decide) ?_)
  try dsimp only [List.set, setL, List.eraseIdx, List.cons_append, List.nil_append, List.append_nil, Nat.zero_add, Nat.reduceAdd, Sl.v] at h
  have hi : 0 ≤ imn (o.parts.n : Int) 70 ∧ imn (o.parts.n : Int) 70 ≤ o.parts.n := by unfold imn; split <;> omega
  dsimp only
  refine t_need (by omega) (t_ret ⟨rfl, h.drop⟩)
theorem parts_rd {w : World} {o : M.Op} (h : Rd w o.parts 3 (partsV o.ps)) : Rd w ⟨slB o.parts.a 0 3 o.parts.c, (imn (o.parts.n : Int) 70).toNat, o.parts.c⟩ 3 (partsV (o.ps.take 70)) := by
  have hl : o.ps.length = o.parts.n := by have := h.len; rw [partsV_length] at this; omega
  have e : (imn (o.parts.n : Int) 70).toNat = min 70 o.parts.n := by unfold imn; split <;> omega
  have e2 : o.ps.take 70 = o.ps.take (min 70 o.parts.n) := by rw [← hl]; exact (List.take_eq_take_min ..)
  rw [e, e2, ← partsV_take]
  exact rd_take h (by omega) _
theorem buildB_length15 (d : M.Desc) : (M.buildB d).length = 16 := by simp [M.buildB]
theorem u32_range (n : Int) : 0 ≤ IntKind.u32.wrap n ∧ IntKind.u32.wrap n < 4294967296 := by rw [IntKind.wrap_u32]; omega
theorem usedB_length (n id : Int) (w : Bool) : (M.usedB n id w).length = 8 := by simp [M.usedB, buildB_length15]
theorem used_con (o : M.Op) (wr : Bool) : Con Tryz.prog NoRo 11 #[.agg (Op.cells o).toArray, .bool wr] .S [] (mkB (M.usedB o.n o.id (wr == o.wrap))) [] := by
  intro w0 W w B _ h
  refine aqueductlaw15_used.calls (o.kind, o.at_, o.id, o.n, o.parts, mkB o.s, o.off, o.ew, o.fl, o.wrap, ()) wr ?_
  unfold aqueductlaw15_used.T
  have hb := band_le o.id 65535 (by decide) (by decide)
  have hm := mark_lt 0 (wr == o.wrap) true (by decide)
  repeat (first
    | refine t_tickS h fun w h => ?_
    | refine t_keepN ?_
    | refine t_ldB h 0 rfl rfl ?_
    | refine t_ldB h 1 rfl rfl ?_
    | refine t_ldB h 2 rfl rfl ?_
    | refine t_ldB h 3 rfl rfl ?_
    | refine t_ldB h 4 rfl rfl ?_
    | refine t_ldB h 5 rfl rfl ?_
    | refine t_ldB h 6 rfl rfl ?_
    | refine t_ldB h 7 rfl rfl ?_
    | refine t_ldB h 8 rfl rfl ?_
    | refine t_ldB h 9 rfl rfl ?_
    | refine t_ldO h 0 rfl rfl rfl ?_
    | refine t_ldO h 1 rfl rfl rfl ?_
    | refine t_ldO h 2 rfl rfl rfl ?_
    | refine t_ldO h 3 rfl rfl rfl ?_
    | refine t_ldO h 4 rfl rfl rfl ?_
    | refine t_ldO h 5 rfl rfl rfl ?_
    | refine t_ldO h 6 rfl rfl rfl ?_
    | refine t_ldO h 7 rfl rfl rfl ?_
    | refine t_ldO h 8 rfl rfl rfl ?_
    | refine t_ldO h 9 rfl rfl rfl ?_
    | refine t_keepB h 0 rfl rfl ?_
    | refine t_keepB h 1 rfl rfl ?_
    | refine t_keepB h 2 rfl rfl ?_
    | refine t_keepB h 3 rfl rfl ?_
    | refine t_keepB h 4 rfl rfl ?_
    | refine t_keepB h 5 rfl rfl ?_
    | refine t_keepB h 6 rfl rfl ?_
    | refine t_keepB h 7 rfl rfl ?_
    | refine t_keepB h 8 rfl rfl ?_
    | refine t_keepB h 9 rfl rfl ?_
    | (refine t_stB h 0 rfl (by simp [setL]) (by simp [Value.oneCell']) fun w h => ?_; try dsimp only [List.set, setL, List.eraseIdx, List.cons_append, List.nil_append, List.append_nil, Nat.zero_add, Nat.reduceAdd, Sl.v] at h)
    | (refine t_stB h 1 rfl (by simp [setL]) (by simp [Value.oneCell']) fun w h => ?_; try dsimp only [List.set, setL, List.eraseIdx, List.cons_append, List.nil_append, List.append_nil, Nat.zero_add, Nat.reduceAdd, Sl.v] at h)
    | (refine t_stB h 2 rfl (by simp [setL]) (by simp [Value.oneCell']) fun w h => ?_; try dsimp only [List.set, setL, List.eraseIdx, List.cons_append, List.nil_append, List.append_nil, Nat.zero_add, Nat.reduceAdd, Sl.v] at h)
    | (refine t_stB h 3 rfl (by simp [setL]) (by simp [Value.oneCell']) fun w h => ?_; try dsimp only [List.set, setL, List.eraseIdx, List.cons_append, List.nil_append, List.append_nil, Nat.zero_add, Nat.reduceAdd, Sl.v] at h)
    | (refine t_stB h 4 rfl (by simp [setL]) (by simp [Value.oneCell']) fun w h => ?_; try dsimp only [List.set, setL, List.eraseIdx, List.cons_append, List.nil_append, List.append_nil, Nat.zero_add, Nat.reduceAdd, Sl.v] at h)
    | (refine t_stB h 5 rfl (by simp [setL]) (by simp [Value.oneCell']) fun w h => ?_; try dsimp only [List.set, setL, List.eraseIdx, List.cons_append, List.nil_append, List.append_nil, Nat.zero_add, Nat.reduceAdd, Sl.v] at h)
    | (refine t_stB h 6 rfl (by simp [setL]) (by simp [Value.oneCell']) fun w h => ?_; try dsimp only [List.set, setL, List.eraseIdx, List.cons_append, List.nil_append, List.append_nil, Nat.zero_add, Nat.reduceAdd, Sl.v] at h)
    | (refine t_stB h 7 rfl (by simp [setL]) (by simp [Value.oneCell']) fun w h => ?_; try dsimp only [List.set, setL, List.eraseIdx, List.cons_append, List.nil_append, List.append_nil, Nat.zero_add, Nat.reduceAdd, Sl.v] at h)
    | (refine t_stB h 8 rfl (by simp [setL]) (by simp [Value.oneCell']) fun w h => ?_; try dsimp only [List.set, setL, List.eraseIdx, List.cons_append, List.nil_append, List.append_nil, Nat.zero_add, Nat.reduceAdd, Sl.v] at h)
    | (refine t_stB h 9 rfl (by simp [setL]) (by simp [Value.oneCell']) fun w h => ?_; try dsimp only [List.set, setL, List.eraseIdx, List.cons_append, List.nil_append, List.append_nil, Nat.zero_add, Nat.reduceAdd, Sl.v] at h)
    | refine t_newB h (by simp [Value.oneCell']) fun w b h hb => ?_
    | refine t_nil ?_
    | refine t_true rfl ?_
    | refine t_false rfl ?_
    | refine t_yes rfl ?_
    | refine t_nyes rfl ?_
    | refine t_no (by decide) ?_
    | refine t_nno (by decide) ?_
    | refine t_need (by decide) ?_)
  try dsimp only [List.set, setL, List.eraseIdx, List.cons_append, List.nil_append, List.append_nil, Nat.zero_add, Nat.reduceAdd, Sl.v] at h
  refine t_callnS (k := .I) (R12_Mark_spec h 0 (wr == o.wrap) true (by decide)) fun w h => ?_
  repeat (first
    | refine t_tickS h fun w h => ?_
    | refine t_keepN ?_
    | refine t_ldB h 0 rfl rfl ?_
    | refine t_ldB h 1 rfl rfl ?_
    | refine t_ldB h 2 rfl rfl ?_
    | refine t_ldB h 3 rfl rfl ?_
    | refine t_ldB h 4 rfl rfl ?_
    | refine t_ldB h 5 rfl rfl ?_
    | refine t_ldB h 6 rfl rfl ?_
    | refine t_ldB h 7 rfl rfl ?_
    | refine t_ldB h 8 rfl rfl ?_
    | refine t_ldB h 9 rfl rfl ?_
    | refine t_ldO h 0 rfl rfl rfl ?_
    | refine t_ldO h 1 rfl rfl rfl ?_
    | refine t_ldO h 2 rfl rfl rfl ?_
    | refine t_ldO h 3 rfl rfl rfl ?_
    | refine t_ldO h 4 rfl rfl rfl ?_
    | refine t_ldO h 5 rfl rfl rfl ?_
    | refine t_ldO h 6 rfl rfl rfl ?_
    | refine t_ldO h 7 rfl rfl rfl ?_
    | refine t_ldO h 8 rfl rfl rfl ?_
    | refine t_ldO h 9 rfl rfl rfl ?_
    | refine t_keepB h 0 rfl rfl ?_
    | refine t_keepB h 1 rfl rfl ?_
    | refine t_keepB h 2 rfl rfl ?_
    | refine t_keepB h 3 rfl rfl ?_
    | refine t_keepB h 4 rfl rfl ?_
    | refine t_keepB h 5 rfl rfl ?_
    | refine t_keepB h 6 rfl rfl ?_
    | refine t_keepB h 7 rfl rfl ?_
    | refine t_keepB h 8 rfl rfl ?_
    | refine t_keepB h 9 rfl rfl ?_
    | (refine t_stB h 0 rfl (by simp [setL]) (by simp [Value.oneCell']) fun w h => ?_; try dsimp only [List.set, setL, List.eraseIdx, List.cons_append, List.nil_append, List.append_nil, Nat.zero_add, Nat.reduceAdd, Sl.v] at h)
    | (refine t_stB h 1 rfl (by simp [setL]) (by simp [Value.oneCell']) fun w h => ?_; try dsimp only [List.set, setL, List.eraseIdx, List.cons_append, List.nil_append, List.append_nil, Nat.zero_add, Nat.reduceAdd, Sl.v] at h)
    | (refine t_stB h 2 rfl (by simp [setL]) (by simp [Value.oneCell']) fun w h => ?_; try dsimp only [List.set, setL, List.eraseIdx, List.cons_append, List.nil_append, List.append_nil, Nat.zero_add, Nat.reduceAdd, Sl.v] at h)
    | (refine t_stB h 3 rfl (by simp [setL]) (by simp [Value.oneCell']) fun w h => ?_; try dsimp only [List.set, setL, List.eraseIdx, List.cons_append, List.nil_append, List.append_nil, Nat.zero_add, Nat.reduceAdd, Sl.v] at h)
    | (refine t_stB h 4 rfl (by simp [setL]) (by simp [Value.oneCell']) fun w h => ?_; try dsimp only [List.set, setL, List.eraseIdx, List.cons_append, List.nil_append, List.append_nil, Nat.zero_add, Nat.reduceAdd, Sl.v] at h)
    | (refine t_stB h 5 rfl (by simp [setL]) (by simp [Value.oneCell']) fun w h => ?_; try dsimp only [List.set, setL, List.eraseIdx, List.cons_append, List.nil_append, List.append_nil, Nat.zero_add, Nat.reduceAdd, Sl.v] at h)
    | (refine t_stB h 6 rfl (by simp [setL]) (by simp [Value.oneCell']) fun w h => ?_; try dsimp only [List.set, setL, List.eraseIdx, List.cons_append, List.nil_append, List.append_nil, Nat.zero_add, Nat.reduceAdd, Sl.v] at h)
    | (refine t_stB h 7 rfl (by simp [setL]) (by simp [Value.oneCell']) fun w h => ?_; try dsimp only [List.set, setL, List.eraseIdx, List.cons_append, List.nil_append, List.append_nil, Nat.zero_add, Nat.reduceAdd, Sl.v] at h)
    | (refine t_stB h 8 rfl (by simp [setL]) (by simp [Value.oneCell']) fun w h => ?_; try dsimp only [List.set, setL, List.eraseIdx, List.cons_append, List.nil_append, List.append_nil, Nat.zero_add, Nat.reduceAdd, Sl.v] at h)
    | (refine t_stB h 9 rfl (by simp [setL]) (by simp [Value.oneCell']) fun w h => ?_; try dsimp only [List.set, setL, List.eraseIdx, List.cons_append, List.nil_append, List.append_nil, Nat.zero_add, Nat.reduceAdd, Sl.v] at h)
    | refine t_newB h (by simp [Value.oneCell']) fun w b h hb => ?_
    | refine t_nil ?_
    | refine t_true rfl ?_
    | refine t_false rfl ?_
    | refine t_yes rfl ?_
    | refine t_nyes rfl ?_
    | refine t_no (by decide) ?_
    | refine t_nno (by decide) ?_
    | refine t_need (by decide) ?_)
  try dsimp only [List.set, setL, List.eraseIdx, List.cons_append, List.nil_append, List.append_nil, Nat.zero_add, Nat.reduceAdd, Sl.v] at h
  refine t_callnS (k := .tup [.S, .I]) (x := (mkB (M.buildB ⟨0, IntKind.u32.wrap o.n, band .i64 o.id 65535, M.mark 0 (wr == o.wrap) true⟩), 0, ())) (R12_Build_spec h ⟨0, IntKind.u32.wrap o.n, band .i64 o.id 65535, M.mark 0 (wr == o.wrap) true⟩ (by dsimp only; omega) (u32_range _) (by dsimp only; omega) hm) fun w h => ?_
  refine t_need (by dsimp only; rw [mkB_size, buildB_length15]; decide) (t_ret ⟨?_, h.drop⟩)
  dsimp only
  rw [mkB_extract, mkB_size, List.take_of_length_le (Nat.le_refl _)]
  rfl
theorem Same_own {s1 s2 : Sl} {E1 E2 : Nat} (l m : List Int) (hl : l.length ≤ 1048576) : Con Tryz.prog NoRo 56 #[.slice s1.a s1.n s1.c, .slice s2.a s2.n s2.c] .B [ownR s1 E1 1 (intsV l), ownR s2 E2 1 (intsV m)] (decide (l = m)) [ownR s1 E1 1 (intsV l), ownR s2 E2 1 (intsV m)] :=
  Con.lend (phi := NoRo) (Con.lend (phi := fun w => NoRo w ∧ Rd w s1 1 (intsV l)) fun w0 W w B hp h => R11_Same_spec h s1 s2 l m (fun w' hw => (hp w' hw).1.2) (fun w' hw => (hp w' hw).2) hl)
end Go.Proofs.YthfcneahnldgnaaGreat
