/- drvq and gmem: contracts without their frames, over total models. -/
import Derived.Test.YthfcneahnldgnaaGreatDrvqInv
import Derived.Test.YthfcneahnldgnaaGreatLaid15
import Derived.Test.YthfcneahnldgnaaGreatVkEq
namespace Go.Proofs.YthfcneahnldgnaaGreat
open Go Vk
set_option linter.unusedSimpArgs false
set_option linter.unusedVariables false
namespace M
def postE (l : List UInt8) (q : DQ) (ps : List Part) : Int := mayPost l.length q.free ps
def postId (l : List UInt8) (q : DQ) (ps : List Part) : Int := if postE l q ps = 0 then leastId q.held else 0
def postQ1 (l : List UInt8) (q : DQ) (ps : List Part) : DQ := if postE l q ps = 0 then postQ l q ps else q
def postM1 (l : List UInt8) (q : DQ) (ps : List Part) : List UInt8 := if postE l q ps = 0 then postMem l q ps else l
def sizeOf (held : List (Int × Int)) (id : Int) : Int := ((held.find? fun p => p.1 = id).map (·.2)).getD 0
def reapUsed (l : List UInt8) (q : DQ) : Prop := says (reapDesc l q).flags q.back.wrap = 2
instance (l : List UInt8) (q : DQ) : Decidable (reapUsed l q) := inferInstanceAs (Decidable (_ = _))
def reapIs (l : List UInt8) (q : DQ) : Bool := decide (reapUsed l q) && hasId q.held (reapDesc l q).id
def reapE (l : List UInt8) (q : DQ) : Int := if decide (reapUsed l q) && !hasId q.held (reapDesc l q).id then 150 else 0
def reapId (l : List UInt8) (q : DQ) : Int := if reapIs l q then (reapDesc l q).id else 0
def reapLen (l : List UInt8) (q : DQ) : Int := if reapIs l q then (reapDesc l q).len else 0
def reapQ1 (l : List UInt8) (q : DQ) : DQ := if reapIs l q then reapQ q (reapDesc l q).id (sizeOf q.held (reapDesc l q).id) else q
end M
theorem sizeOf_mem {held : List (Int × Int)} {id n : Int} (hn : (held.map (·.1)).Nodup) (h : (id, n) ∈ held) : M.sizeOf held id = n := by
  unfold M.sizeOf
  induction held with
  | nil => simp at h
  | cons p l ih =>
    simp only [List.map_cons, List.nodup_cons] at hn
    rcases List.mem_cons.1 h with rfl | h
    · simp
    · have hne : p.1 ≠ id := fun he => hn.1 (List.mem_map.2 ⟨(id, n), h, he.symm⟩)
      rw [List.find?_cons_of_neg (by simpa using hne)]
      exact ih hn.2 h
theorem hasId_mem {held : List (Int × Int)} {id n : Int} (h : (id, n) ∈ held) : M.hasId held id = true := by
  simp only [M.hasId, List.any_eq_true, decide_eq_true_eq]; exact ⟨_, h, rfl⟩
theorem mem_sizeOf {held : List (Int × Int)} {id : Int} (h : M.hasId held id = true) : (id, M.sizeOf held id) ∈ held := by
  unfold M.sizeOf
  induction held with
  | nil => simp [M.hasId] at h
  | cons p l ih =>
    by_cases hp : p.1 = id
    · rw [List.find?_cons_of_pos (by simpa using hp)]
      simp only [Option.map_some, Option.getD_some]
      rw [← hp]; exact List.mem_cons_self
    · rw [List.find?_cons_of_neg (by simpa using hp)]
      refine List.mem_cons_of_mem _ (ih ?_)
      simp only [M.hasId, List.any_cons, Bool.or_eq_true, decide_eq_true_eq] at h
      rcases h with h | h
      · exact absurd h hp
      · exact h
theorem postQ1_inv {l : List UInt8} {q : M.DQ} {ps : List M.Part} (h : q.Inv) : (M.postQ1 l q ps).Inv := by
  unfold M.postQ1
  split
  · exact postQ_inv (N := l.length) h (by assumption)
  · exact h
theorem reapQ1_inv {l : List UInt8} {q : M.DQ} (h : q.Inv) : (M.reapQ1 l q).Inv := by
  unfold M.reapQ1
  split
  · rename_i hr
    simp only [M.reapIs, Bool.and_eq_true] at hr
    exact reapQ_inv h (mem_sizeOf hr.2)
  · exact h
@[simp] theorem postM1_length (l : List UInt8) (q : M.DQ) (ps : List M.Part) : (M.postM1 l q ps).length = l.length := by
  unfold M.postM1; split <;> simp

theorem gmem_Read_fn {b : Nat} {l : List UInt8} (at_ n : Int) (h1 : i64R at_) (h2 : i64R n) : Con Tryz.prog NoRo 36 #[.pointer (some ⟨b, 0, none⟩), .int .i64 at_, .int .i64 n] (.tup [.S, .I]) [memR b l] (mkB (M.read l at_ n).1, (M.read l at_ n).2, ()) [memR b l] :=
  fun w0 W w B _ h => gmem_Read_spec h at_ n h1 h2
theorem gmem_Write_fn {b : Nat} {l : List UInt8} (at_ : Int) (t : List UInt8) (h1 : i64R at_) (h2 : t.length ≤ 140737488355328) : Con Tryz.prog NoRo 10 #[.pointer (some ⟨b, 0, none⟩), .int .i64 at_, .string (mkB t)] .I [memR b l] (M.write l at_ t).2 [memR b (M.writeM l at_ t)] :=
  fun w0 W w B _ h => gmem_Write_spec' h at_ t h1 h2
theorem gmem_Image_fn {b : Nat} {l : List UInt8} : Con Tryz.prog NoRo 26 #[.pointer (some ⟨b, 0, none⟩)] .S [memR b l] (mkB l) [memR b l] :=
  fun w0 W w B _ h => gmem_Image_spec h
theorem drvq_Free_fn {b mb : Nat} {q : M.DQ} : Con Tryz.prog NoRo 55 #[.pointer (some ⟨b, 0, none⟩)] .I [dqR b mb q] q.free [dqR b mb q] :=
  fun w0 W w B _ h => drvq_Free_spec h
theorem drvq_Back_fn {b mb : Nat} {q : M.DQ} : Con Tryz.prog NoRo 59 #[.pointer (some ⟨b, 0, none⟩)] (.one (.agg [.I, .bool])) [dqR b mb q] (q.back.at_, q.back.wrap, ()) [dqR b mb q] :=
  fun w0 W w B _ h => drvq_Back_spec h
theorem drvq_Post_fn {b mb : Nat} {l : List UInt8} {q : M.DQ} {x1 : Sl} (ps : List M.Part) (hq : q.Inv) (hl : l.length ≤ 1048576) (hw : ∀ p ∈ ps, i64R p.at_ ∧ i64R p.n) (hlen : x1.n ≤ 281474976710656) :
    Con Tryz.prog (fun w => Rd w x1 3 (partsV ps)) 5 #[.pointer (some ⟨b, 0, none⟩), .slice x1.a x1.n x1.c] (.tup [.I, .I]) [dqR b mb q, memR mb l] (M.postId l q ps, M.postE l q ps, ()) [dqR b mb (M.postQ1 l q ps), memR mb (M.postM1 l q ps)] := by
  intro w0 W w B hro h
  refine (drvq_Post_spec h hq.ok hl hro hw hlen).mono fun e w' he => ?_
  unfold M.postId M.postQ1 M.postM1 M.postE
  split at he
  · rename_i hc
    simp only [if_pos hc]
    rw [hc]; exact he
  · rename_i hc
    simp only [if_neg hc]
    exact he
theorem drvq_Reap_fn {b mb : Nat} {l : List UInt8} {q : M.DQ} (hq : q.Inv) (hl : l.length ≤ 1048576) :
    Con Tryz.prog NoRo 8 #[.pointer (some ⟨b, 0, none⟩)] (.tup [.I, .I, .B, .I]) [dqR b mb q, memR mb l] (M.reapId l q, M.reapLen l q, M.reapIs l q, M.reapE l q, ()) [dqR b mb (M.reapQ1 l q), memR mb l] := by
  intro w0 W w B _ h
  refine (drvq_Reap_spec h hq.ok hl).mono fun e w' he => ?_
  unfold M.reapId M.reapLen M.reapE M.reapQ1
  split at he
  · rename_i hu
    have hu' : M.reapUsed l q := hu
    rcases he with ⟨h1, h2, h3⟩ | ⟨n, hn, h2, h3⟩
    · have hi : M.reapIs l q = false := by simp [M.reapIs, h1]
      simp only [hi, h1, decide_eq_true hu', Bool.false_eq_true, if_false, Bool.not_false, Bool.and_self, if_true]
      exact ⟨h2, h3⟩
    · have h1 := hasId_mem hn
      have hi : M.reapIs l q = true := by simp [M.reapIs, h1, hu']
      simp only [hi, h1, decide_eq_true hu', if_true, Bool.not_true, Bool.and_false, Bool.false_eq_true, if_false]
      rw [sizeOf_mem hq.nodup hn]
      exact ⟨h2, h3⟩
  · rename_i hu
    have hu' : ¬ M.reapUsed l q := hu
    have hi : M.reapIs l q = false := by simp [M.reapIs, hu']
    simp only [hi, decide_eq_false hu', Bool.false_and, Bool.false_eq_true, if_false]
    exact he
theorem laid_ok (n : Int) (y : M.Lay) (sl : Sl) (h1 : i64R y.ring) (h2 : i64R y.size) (h3 : i64R y.drv) (h4 : i64R y.dev) (hc : M.layCheck (M.laid0 n).length y = 0) :
    ConE Tryz.prog NoRo 4 #[.agg #[.int .i64 n, .int .i64 y.ring, .int .i64 y.size, .int .i64 y.drv, .int .i64 y.dev, .slice sl.a sl.n sl.c]] (.tup [.P, .P, .P, .B]) [] fun x post => ∃ mb kb qb xb,
      x = (some ⟨mb, 0, none⟩, some ⟨qb, 0, none⟩, some ⟨xb, 0, none⟩, true, ()) ∧ post = [dqR qb mb (M.newQ y), memR mb (M.newMem (M.laid0 n) y), kqR xb kb (M.newK y), memK kb (M.newMem (M.laid0 n) y)] := by
  intro w0 W w B _ h
  refine (laid_spec h n y sl h1 h2 h3 h4).mono fun e w' he => ?_
  obtain ⟨mb, kb, he⟩ := he
  rw [if_pos hc] at he
  obtain ⟨qb, xb, he, hst⟩ := he
  exact ⟨(some ⟨mb, 0, none⟩, some ⟨qb, 0, none⟩, some ⟨xb, 0, none⟩, true, ()), [dqR qb mb (M.newQ y), memR mb (M.newMem (M.laid0 n) y), kqR xb kb (M.newK y), memK kb (M.newMem (M.laid0 n) y)], he, ⟨mb, kb, qb, xb, rfl, rfl⟩, hst⟩
theorem laid_no (n : Int) (y : M.Lay) (sl : Sl) (h1 : i64R y.ring) (h2 : i64R y.size) (h3 : i64R y.drv) (h4 : i64R y.dev) (hc : M.layCheck (M.laid0 n).length y ≠ 0) :
    ConE Tryz.prog NoRo 4 #[.agg #[.int .i64 n, .int .i64 y.ring, .int .i64 y.size, .int .i64 y.drv, .int .i64 y.dev, .slice sl.a sl.n sl.c]] (.tup [.P, .P, .P, .B]) [] fun x post => ∃ mb kb,
      x = (some ⟨mb, 0, none⟩, none, none, true, ()) ∧ post = [memR mb (M.laid0 n), memK kb (M.laid0 n)] := by
  intro w0 W w B _ h
  refine (laid_spec h n y sl h1 h2 h3 h4).mono fun e w' he => ?_
  obtain ⟨mb, kb, he⟩ := he
  rw [if_neg hc] at he
  exact ⟨(some ⟨mb, 0, none⟩, none, none, true, ()), [memR mb (M.laid0 n), memK kb (M.laid0 n)], he.1, ⟨mb, kb, rfl, rfl⟩, he.2⟩
theorem drvq_New_ok {mb : Nat} {l : List UInt8} (hl : l.length ≤ 1048576) (y : M.Lay) (h1 : i64R y.ring) (h2 : i64R y.size) (h3 : i64R y.drv) (h4 : i64R y.dev) (hc : M.layCheck l.length y = 0) :
    ConE Tryz.prog NoRo 24 #[.pointer (some ⟨mb, 0, none⟩), .agg #[.int .i64 y.ring, .int .i64 y.size, .int .i64 y.drv, .int .i64 y.dev]] (.tup [.P, .I]) [memR mb l] fun x post =>
      ∃ b, x = (some ⟨b, 0, none⟩, 0, ()) ∧ post = [dqR b mb (M.newQ y), memR mb (M.newMem l y)] := by
  intro w0 W w B _ h
  refine (drvq_New_spec h hl y h1 h2 h3 h4).mono fun e w' he => ?_
  rw [if_pos hc] at he
  obtain ⟨b, he, hst⟩ := he
  exact ⟨(some ⟨b, 0, none⟩, 0, ()), [dqR b mb (M.newQ y), memR mb (M.newMem l y)], he, ⟨b, rfl, rfl⟩, hst⟩
theorem drvq_New_no {mb : Nat} {l : List UInt8} (hl : l.length ≤ 1048576) (y : M.Lay) (h1 : i64R y.ring) (h2 : i64R y.size) (h3 : i64R y.drv) (h4 : i64R y.dev) {e : Int} (hc : M.layCheck l.length y = e) (he : e ≠ 0) :
    Con Tryz.prog NoRo 24 #[.pointer (some ⟨mb, 0, none⟩), .agg #[.int .i64 y.ring, .int .i64 y.size, .int .i64 y.drv, .int .i64 y.dev]] (.tup [.P, .I]) [memR mb l] (none, e, ()) [memR mb l] := by
  intro w0 W w B _ h
  refine (drvq_New_spec h hl y h1 h2 h3 h4).mono fun e w' he => ?_
  rw [hc, if_neg (by assumption)] at he
  exact he
end Go.Proofs.YthfcneahnldgnaaGreat
