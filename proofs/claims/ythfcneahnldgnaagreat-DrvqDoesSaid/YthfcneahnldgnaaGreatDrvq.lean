/- drvq: a queue, the driver's side: contracts. -/
import Derived.Test.YthfcneahnldgnaaGreatRef04
import Derived.Test.YthfcneahnldgnaaGreatVkRd
namespace Go.Proofs.YthfcneahnldgnaaGreat
open Go Vk
set_option linter.unusedSimpArgs false
set_option linter.unusedVariables false
namespace M
structure Part where
  at_ : Int
  n : Int
  write : Bool
structure Lay where
  ring : Int
  size : Int
  drv : Int
  dev : Int
def partsOk (N : Nat) : Bool → List Part → Bool
  | _, [] => true
  | prev, p :: r => decide (1 ≤ p.n) && mayAt N p.at_ p.n && (p.write || !prev) && partsOk N p.write r
def mayPost (N : Nat) (free : Int) (ps : List Part) : Int :=
  if ps.length = 0 ∨ 64 < ps.length then 150 else if !partsOk N false ps then 150 else if free < ps.length then 151 else 0
def layCheck (N : Nat) (l : Lay) : Int :=
  if 1 ≤ l.size ∧ l.size ≤ 32768 ∧ l.ring.tmod 16 = 0 ∧ l.drv.tmod 4 = 0 ∧ l.dev.tmod 4 = 0 ∧ mayAt N l.ring (16 * l.size) ∧ mayAt N l.drv 4 ∧ mayAt N l.dev 4 then 0 else 140
structure DQ where
  l : Lay
  next : Spot
  back : Spot
  told : Spot
  since : Int
  free : Int
  held : List (Int × Int)
end M
def Part.cells (p : M.Part) : List Value := [.int .i64 p.at_, .int .i64 p.n, .bool p.write]
def partsV (ps : List M.Part) : List Value := ps.flatMap Part.cells
theorem partsV_length (ps : List M.Part) : (partsV ps).length = ps.length * 3 := by
  induction ps with
  | nil => rfl
  | cons p ps ih => simp only [partsV, List.flatMap_cons, List.length_append, List.length_cons] at *; simp [Part.cells, ih]; omega
theorem partsV_drop (ps : List M.Part) (i : Nat) : (partsV ps).drop (i * 3) = partsV (ps.drop i) := by
  induction ps generalizing i with
  | nil => simp [partsV]
  | cons p ps ih =>
    cases i with
    | zero => simp
    | succ i => rw [Nat.add_mul, Nat.add_comm, ← List.drop_drop, List.drop_succ_cons, ← ih]; rfl
abbrev Lay.v (l : M.Lay) : Value := .agg #[.int .i64 l.ring, .int .i64 l.size, .int .i64 l.drv, .int .i64 l.dev]
def i64R (x : Int) : Prop := -9223372036854775808 ≤ x ∧ x ≤ 9223372036854775807
section
variable {w0 w : World} {W : List Nat} {B : List Res}
/-- A queue's own things. -/
def dqR (b mb : Nat) (q : M.DQ) : Res := exR fun r : Nat =>
  allR [blkR b [.pointer (some ⟨mb, 0, none⟩), .int .i64 q.l.ring, .int .i64 q.l.size, .int .i64 q.l.drv, .int .i64 q.l.dev, .int .i64 q.next.at_, .bool q.next.wrap, .int .i64 q.back.at_, .bool q.back.wrap, .int .i64 q.told.at_, .bool q.told.wrap, .int .i64 q.since, .int .i64 q.free, .map (some r)] 78, mapR r q.held]
theorem dq_open {b mb : Nat} {q : M.DQ} (h : St w0 W w (dqR b mb q :: B)) : ∃ r, St w0 W w (blkR b [.pointer (some ⟨mb, 0, none⟩), .int .i64 q.l.ring, .int .i64 q.l.size, .int .i64 q.l.drv, .int .i64 q.l.dev, .int .i64 q.next.at_, .bool q.next.wrap, .int .i64 q.back.at_, .bool q.back.wrap, .int .i64 q.told.at_, .bool q.told.wrap, .int .i64 q.since, .int .i64 q.free, .map (some r)] 78 :: mapR r q.held :: B) := by
  obtain ⟨r, h⟩ := h.ex
  exact ⟨r, h.open⟩
theorem dq_close {b mb r : Nat} (q : M.DQ) (h : St w0 W w (blkR b [.pointer (some ⟨mb, 0, none⟩), .int .i64 q.l.ring, .int .i64 q.l.size, .int .i64 q.l.drv, .int .i64 q.l.dev, .int .i64 q.next.at_, .bool q.next.wrap, .int .i64 q.back.at_, .bool q.back.wrap, .int .i64 q.told.at_, .bool q.told.wrap, .int .i64 q.since, .int .i64 q.free, .map (some r)] 78 :: mapR r q.held :: B)) : St w0 W w (dqR b mb q :: B) :=
  St.inj r (St.close [_, _] h)

theorem devq_Check_spec {b : Nat} {l : List UInt8} (h : St w0 W w (memR b l :: B)) (y : M.Lay) (h1 : i64R y.ring) (h2 : i64R y.size) (h3 : i64R y.drv) (h4 : i64R y.dev) :
    Calls Tryz.prog 60 #[.pointer (some ⟨b, 0, none⟩), Lay.v y] w fun e w' => e = .returned (.int .i64 (M.layCheck l.length y)) ∧ St w0 W w' (memR b l :: B) := by
  refine devq_Check.calls ⟨b, 0, none⟩ (y.ring, y.size, y.drv, y.dev, ()) ?_
  unfold devq_Check.T
  dsimp only
  unfold i64R at *
  refine t_newB h (by simp [Value.oneCell']) fun w b' h hb => ?_
  refine t_ldB h 0 rfl rfl (t_if (fun c1 => t_ret ⟨by simp [M.layCheck]; omega, h.drop⟩) (fun c1 => ?_))
  refine t_ldB h 0 rfl rfl (t_if (fun c2 => t_ret ⟨by simp [M.layCheck]; omega, h.drop⟩) (fun c2 => ?_))
  refine t_ldB h 0 rfl rfl (t_need (by omega) (t_ifn (fun c3 => t_ret ⟨by simp [M.layCheck, c3], h.drop⟩) (fun c3 => ?_)))
  refine t_ldB h 0 rfl rfl (t_need (by omega) (t_ifn (fun c4 => t_ret ⟨by simp [M.layCheck, c4], h.drop⟩) (fun c4 => ?_)))
  refine t_ldB h 0 rfl rfl (t_need (by omega) (t_ifn (fun c5 => t_ret ⟨by simp [M.layCheck, c5], h.drop⟩) (fun c5 => ?_)))
  refine t_ldB h 0 rfl rfl (t_ldB h 0 rfl rfl ?_)
  rw [w64 (n := 16 * y.size) (by omega)]
  refine t_callS (k := .B) (x := M.mayAt l.length y.ring (16 * y.size)) (gmem_May_spec h.swap _ _ h1 (by omega)) fun w h => ?_
  refine t_not (fun c6 => t_ret ⟨by simp [M.layCheck, c6], h.swap.drop⟩) (fun c6 => ?_)
  refine t_ldB h 1 rfl rfl ?_
  refine t_callS (k := .B) (x := M.mayAt l.length y.drv 4) (gmem_May_spec h _ _ h3 (by omega)) fun w h => ?_
  refine t_not (fun c7 => t_ret ⟨by simp [M.layCheck, c7], h.swap.drop⟩) (fun c7 => ?_)
  refine t_ldB h 1 rfl rfl ?_
  refine t_callS (k := .B) (x := M.mayAt l.length y.dev 4) (gmem_May_spec h _ _ h4 (by omega)) fun w h => ?_
  refine t_not (fun c8 => t_ret ⟨by simp [M.layCheck, c8], h.swap.drop⟩) (fun c8 => t_ret ⟨?_, h.swap.drop⟩)
  simp [M.layCheck, c3, c4, c5, c6, c7, c8]; omega

theorem drvq_may_spec {b mb : Nat} {l : List UInt8} {q : M.DQ} {x1 : Sl} {ps : List M.Part} (h : St w0 W w (dqR b mb q :: memR mb l :: B)) (hro : ∀ w', Keep W w0 w' → Rd w' x1 3 (partsV ps)) (hw : ∀ p ∈ ps, i64R p.at_ ∧ i64R p.n) (hf : i64R q.free) (hlen : x1.n ≤ 281474976710656) :
    Calls Tryz.prog 27 #[.pointer (some ⟨b, 0, none⟩), .slice x1.a x1.n x1.c] w fun e w' => e = .returned (.int .i64 (M.mayPost l.length q.free ps)) ∧ St w0 W w' (dqR b mb q :: memR mb l :: B) := by
  refine drvq_Queue_may.calls ⟨b, 0, none⟩ x1 ?_
  unfold drvq_Queue_may.T
  have hxn : ps.length = x1.n := by have := (hro w h.kept).len; rw [partsV_length] at this; omega
  refine t_if (fun c1 => t_ret ⟨by rw [M.mayPost, if_pos (by omega)], h⟩) (fun c1 => ?_)
  refine t_if (fun c2 => t_ret ⟨by rw [M.mayPost, if_pos (by omega)], h⟩) (fun c2 => ?_)
  have hbad : M.partsOk l.length false ps = false → M.mayPost l.length q.free ps = 150 := fun hb => by rw [M.mayPost, if_neg (by omega), if_pos (by simp [hb])]
  refine t_loop (fun m st w' => ∃ k : Nat, k ≤ ps.length ∧ m = ps.length - k ∧ st = ((k : Int), ()) ∧ M.partsOk l.length false ps = M.partsOk l.length (if k = 0 then false else (ps.getD (k - 1) ⟨0, 0, false⟩).write) (ps.drop k) ∧ St w0 W w' (dqR b mb q :: memR mb l :: B)) ps.length ⟨0, by omega, rfl, rfl, rfl, h⟩ ?_
  rintro m st w ⟨k, hk, rfl, rfl, hinv, h⟩ Ks hJ _
  dsimp only
  obtain ⟨r, h'⟩ := dq_open h
  refine t_if (fun hc => ?_) (fun hc => ?_)
  · have hlt : k < ps.length := by omega
    have hd : ps.drop k = ps[k] :: ps.drop (k + 1) := by rw [List.drop_eq_getElem_cons hlt]
    rw [hd] at hinv
    simp only [M.partsOk] at hinv
    have hpw := hw ps[k] (List.getElem_mem hlt)
    have hcells : ∀ m : Nat, m < ps.length → ∃ t, (partsV ps).drop (m * 3) = Part.cells (ps.getD m ⟨0, 0, false⟩) ++ t := by
      intro m hm
      rw [partsV_drop, List.drop_eq_getElem_cons hm]
      refine ⟨partsV (ps.drop (m + 1)), ?_⟩
      rw [show ps.getD m ⟨0, 0, false⟩ = ps[m] by simp [List.getD, hm]]
      rfl
    have hget : ps.getD k ⟨0, 0, false⟩ = ps[k] := by simp [List.getD, hlt]
    refine t_need (by omega) (t_nilRd (hro w h.kept) (by omega) fun a ha => ?_)
    rw [Int.toNat_natCast]
    obtain ⟨t, ht⟩ := hcells k hlt
    rw [hget] at ht
    generalize ps[k] = p at *
    refine t_ldRd (k := .agg [.I, .I, .bool]) (x := (p.at_, p.n, p.write, ())) (hro w h.kept) ha (by rw [ht]; rfl) ?_
    refine t_newB h' (by simp [Value.oneCell']) fun w b' h' hb' => ?_
    refine t_stB h' 0 rfl (by simp) (by simp [Value.oneCell']) fun w h' => ?_
    refine t_tickS h' fun w h' => ?_
    dsimp only [List.set, setL, Nat.zero_add] at h'
    refine t_ldB h' 0 rfl rfl (t_if (fun c3 => t_ret ⟨?_, dq_close q h'.drop⟩) (fun c3 => ?_))
    · rw [hbad (by rw [hinv]; simp; omega)]
    refine t_ldB h' 1 rfl rfl (t_ldB h' 0 rfl rfl (t_ldB h' 0 rfl rfl ?_))
    refine t_callnS (k := .B) (x := M.mayAt l.length p.at_ p.n) (gmem_May_spec (St.rot3 h') p.at_ p.n hpw.1 hpw.2) fun w h' => ?_
    refine t_not (fun c4 => t_ret ⟨?_, dq_close q (St.unrot2 (h'.dropAt 1 (by simp)))⟩) (fun c4 => ?_)
    · rw [hbad (by rw [hinv, c4]; simp)]
    have hback : St w0 W w (dqR b mb q :: memR mb l :: B) := dq_close q (St.unrot2 (h'.dropAt 1 (by simp)))
    have step : (M.partsOk l.length false ps = M.partsOk l.length p.write (ps.drop (k + 1))) → Ks 0 (vT [Kd.I] (((k + 1 : Nat) : Int), ())) w := fun hs => by
      refine hJ (ps.length - (k + 1)) (((k + 1 : Nat) : Int), ()) w (by omega) ⟨k + 1, by omega, rfl, rfl, ?_, hback⟩
      rw [if_neg (by omega), Nat.add_sub_cancel, hget]; exact hs
    rw [w64 (n := (k : Int) + 1) (by omega)]
    have hd1 : decide (1 ≤ p.n) = true := decide_eq_true (by omega)
    rw [hd1, c4] at hinv
    refine t_if (fun c5 => ?_) (fun c5 => t_next (step ?_))
    · rw [w64 (n := (k : Int) - 1) (by omega)]
      refine t_need (by omega) (t_nilRd (hro w h'.kept) (by omega) fun a2 ha2 => ?_)
      obtain ⟨t2, ht2⟩ := hcells (k - 1) (by omega)
      rw [show ((k : Int) - 1).toNat = k - 1 by omega, Addr.add_add]
      rw [if_neg (by omega)] at hinv
      generalize ps.getD (k - 1) ⟨0, 0, false⟩ = p2 at *
      refine t_ldRd (k := .B) (x := p2.write) (hro w h'.kept) ha2 (by rw [← List.drop_drop, ht2]; rfl) ?_
      refine t_cond (fun c6 => ?_) (fun c6 => t_next (step ?_))
      · refine t_ldB h' 1 rfl rfl (t_not (fun c7 => t_ret ⟨?_, hback⟩) (fun c7 => t_next (step ?_)))
        · rw [hbad (by rw [hinv, c6, c7]; simp)]
        · rw [hinv, c7]; simp
      · rw [hinv, c6]; simp
    · rw [hinv, if_pos (by omega)]; simp
  · have hke : k = ps.length := by omega
    subst hke
    rw [List.drop_length] at hinv
    refine t_ldB h' 0 rfl rfl (t_if (fun c3 => t_ret ⟨?_, h⟩) (fun c3 => t_ret ⟨?_, h⟩))
    · rw [M.mayPost, if_neg (by omega), if_neg (by simp [hinv, M.partsOk]), if_pos (by omega)]
    · rw [M.mayPost, if_neg (by omega), if_neg (by simp [hinv, M.partsOk]), if_neg (by omega)]

namespace M
def hasId (held : List (Int × Int)) (n : Int) : Bool := held.any fun p => p.1 = n
def idGo (held : List (Int × Int)) : Nat → Nat → Nat
  | 0, n => n
  | f + 1, n => if hasId held n then idGo held f (n + 1) else n
def leastId (held : List (Int × Int)) : Nat := idGo held (held.length + 1) 0
end M
theorem pigeon {held : List (Int × Int)} {n : Nat} (h : ∀ j, j < n → M.hasId held (j : Nat) = true) : n ≤ held.length := by
  have h1 : ((List.range n).map (fun j : Nat => (j : Int))).Nodup := by
    unfold List.Nodup
    rw [List.pairwise_map]
    exact (List.nodup_range (n := n)).imp fun hne he => hne (by omega)
  have h2 := List.Nodup.length_le_of_subset (l₂ := held.map (·.1)) h1 (by
    intro x hx
    obtain ⟨j, hj, rfl⟩ := List.mem_map.1 hx
    have := h j (List.mem_range.1 hj)
    simp only [M.hasId, List.any_eq_true, decide_eq_true_eq] at this
    obtain ⟨p, hp, hpj⟩ := this
    exact List.mem_map.2 ⟨p, hp, hpj⟩)
  simpa using h2
theorem idGo_eq {held : List (Int × Int)} {n : Nat} (hn : M.hasId held (n : Nat) = false) : ∀ (f k : Nat), k ≤ n → n < k + f → (∀ j, k ≤ j → j < n → M.hasId held (j : Nat) = true) → M.idGo held f k = n
  | 0, k, h1, h2, _ => by omega
  | f + 1, k, h1, h2, h3 => by
    unfold M.idGo
    by_cases hk : k = n
    · subst hk; rw [if_neg (by rw [hn]; simp)]
    · rw [if_pos (h3 k (Nat.le_refl _) (by omega))]
      exact idGo_eq hn f (k + 1) (by omega) (by omega) fun j hj1 hj2 => h3 j (by omega) hj2
theorem leastId_eq {held : List (Int × Int)} {n : Nat} (hn : M.hasId held (n : Nat) = false) (h : ∀ j, j < n → M.hasId held (j : Nat) = true) : M.leastId held = n :=
  idGo_eq hn _ 0 (by omega) (by have := pigeon h; omega) fun j _ hj => h j hj
theorem leastId_le (held : List (Int × Int)) : (∀ j, j < M.leastId held → M.hasId held (j : Nat) = true) ∧ M.hasId held (M.leastId held : Nat) = false := by
  have go : ∀ (f k : Nat), held.length < k + f → (∀ j, j < k → M.hasId held (j : Nat) = true) → (∀ j, j < M.idGo held f k → M.hasId held (j : Nat) = true) ∧ M.hasId held (M.idGo held f k : Nat) = false := by
    intro f
    induction f with
    | zero => intro k h1 h2; have := pigeon h2; omega
    | succ f ih =>
      intro k h1 h2
      unfold M.idGo
      split
      · rename_i hk
        exact ih (k + 1) (by omega) fun j hj => by
          by_cases hjk : j = k
          · subst hjk; exact hk
          · exact h2 j (by omega)
      · rename_i hk
        exact ⟨h2, by simpa using hk⟩
  exact go _ 0 (by omega) (by intro j hj; omega)
theorem undMapII : Tryz.prog.underlying 76 = some (.map 3 3) := by kernel_rfl
theorem undInt : Tryz.prog.underlying 3 = some (.int .i64) := by kernel_rfl
theorem zeroInt (w : World) : (zeroValue 3).run Tryz.prog w = .ok (.int .i64 0) w := by
  have h : (Tryz.prog.info? 3).bind (·.zero) = some (.int .i64 0) := by kernel_rfl
  obtain ⟨i, hi, hz⟩ := Option.bind_eq_some_iff.1 h
  simp [zeroValue, typeInfo, hi, hz]
theorem drvq_id_spec {b mb : Nat} {q : M.DQ} (h : St w0 W w (dqR b mb q :: B)) (hl : q.held.length ≤ 1048576) :
    Calls Tryz.prog 28 #[.pointer (some ⟨b, 0, none⟩)] w fun e w' => e = .returned (.int .i64 (M.leastId q.held : Nat)) ∧ St w0 W w' (dqR b mb q :: B) := by
  refine drvq_Queue_id.calls ⟨b, 0, none⟩ ?_
  unfold drvq_Queue_id.T
  refine t_loop (fun m st w' => ∃ k : Nat, k ≤ q.held.length ∧ m = q.held.length + 1 - k ∧ st = ((k : Int), ()) ∧ (∀ j, j < k → M.hasId q.held (j : Nat) = true) ∧ St w0 W w' (dqR b mb q :: B)) (q.held.length + 1) ⟨0, by omega, rfl, rfl, by intro j hj; omega, h⟩ ?_
  rintro m st w ⟨k, hk, rfl, rfl, hinv, h⟩ Ks hJ _
  dsimp only
  obtain ⟨r, h'⟩ := dq_open h
  refine t_ldB h' 0 rfl rfl ?_
  refine t_lookupII h' 1 rfl undMapII undInt zeroInt (fun hno => ?_) (fun v hv => ?_)
  · refine t_true rfl (t_ret ⟨?_, h⟩)
    have hn : M.hasId q.held (k : Nat) = false := by
      simp only [M.hasId, List.any_eq_false, decide_eq_true_eq]
      intro p hp; exact hno p hp
    rw [leastId_eq hn hinv]
  · refine t_false rfl ?_
    rw [w64 (n := (k : Int) + 1) (by omega)]
    have hinv' : ∀ j, j < k + 1 → M.hasId q.held (j : Nat) = true := fun j hj => by
      by_cases hjk : j = k
      · subst hjk
        simp only [M.hasId, List.any_eq_true, decide_eq_true_eq]
        exact ⟨_, hv, rfl⟩
      · exact hinv j (by omega)
    have := pigeon hinv'
    exact t_next (hJ _ (((k + 1 : Nat) : Int), ()) w (by omega) ⟨k + 1, by omega, rfl, rfl, hinv', h⟩)
end
end Go.Proofs.YthfcneahnldgnaaGreat
