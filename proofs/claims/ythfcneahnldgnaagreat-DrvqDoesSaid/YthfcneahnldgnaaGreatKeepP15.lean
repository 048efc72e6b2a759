/- The document's queue: Post. -/
import Derived.Test.YthfcneahnldgnaaGreatKeepR15
namespace Go.Proofs.YthfcneahnldgnaaGreat
open Go Vk
set_option linter.unusedSimpArgs false
set_option linter.unusedVariables false
theorem R4_May_con {b : Nat} {l : List UInt8} (at_ n : Int) (h1 : i64R at_) (h2 : i64R n) : Con Tryz.prog NoRo 31 #[.pointer (some ⟨b, 0, none⟩), .int .i64 at_, .int .i64 n] .B [memK b l] (M.mayAt l.length at_ n) [memK b l] := fun w0 W w B _ h => R4_May_spec h at_ n h1 h2
theorem R4_Write_con {b : Nat} {l : List UInt8} (at_ : Int) (t : List UInt8) (h1 : i64R at_) (h2 : t.length ≤ 140737488355328) : Con Tryz.prog NoRo 12 #[.pointer (some ⟨b, 0, none⟩), .int .i64 at_, .string (mkB t)] .I [memK b l] (M.write l at_ t).2 [memK b (M.writeM l at_ t)] := fun w0 W w B _ h => R4_Write_spec' h at_ t h1 h2
theorem R12_Mark_con (flags : Int) (wrap used : Bool) (hf : 0 ≤ flags ∧ flags < 4) : Con Tryz.prog NoRo 35 #[.int .i64 flags, .bool wrap, .bool used] .I [] (M.mark flags wrap used) [] := fun w0 W w B _ h => R12_Mark_spec h flags wrap used hf
theorem R12_Build_con (d : M.Desc) (h1 : 0 ≤ d.addr ∧ d.addr < 18446744073709551616) (h2 : 0 ≤ d.len ∧ d.len < 4294967296) (h3 : 0 ≤ d.id ∧ d.id < 65536) (h4 : 0 ≤ d.flags ∧ d.flags < 65536) : Con Tryz.prog NoRo 34 #[Desc.v d] (.tup [.S, .I]) [] (mkB (M.buildB d), 0, ()) [] := fun w0 W w B _ h => R12_Build_spec h d h1 h2 h3 h4
abbrev kqB (qb mb : Nat) (q : M.KQ) (s : Sl) : Res := blkR qb [.pointer (some ⟨mb, 0, none⟩), .int .i64 q.l.ring, .int .i64 q.l.size, .int .i64 q.l.drv, .int .i64 q.l.dev, .int .i64 q.nx.at_, .bool q.nx.wrap, .int .i64 q.bk.at_, .bool q.bk.wrap, .int .i64 q.told.at_, .bool q.told.wrap, .int .i64 q.since, .slice s.a s.n s.c] 48
theorem partsV_at (ps : List M.Part) (m : Nat) (h : m < ps.length) : ∃ t, (partsV ps).drop (m * 3) = Part.cells (ps.getD m ⟨0, 0, false⟩) ++ t := by
  rw [partsV_drop, List.drop_eq_getElem_cons h]
  refine ⟨partsV (ps.drop (m + 1)), ?_⟩
  rw [show ps.getD m ⟨0, 0, false⟩ = ps[m] by simp [List.getD, h]]
  rfl
def prevW (ps : List M.Part) (k : Nat) : Bool := if k = 0 then false else (ps.getD (k - 1) ⟨0, 0, false⟩).write
theorem partsOk_step (N : Nat) (ps : List M.Part) (k : Nat) (h : k < ps.length) : M.partsOk N (prevW ps k) (ps.drop k) = ((decide (1 ≤ (ps.getD k ⟨0, 0, false⟩).n) && M.mayAt N (ps.getD k ⟨0, 0, false⟩).at_ (ps.getD k ⟨0, 0, false⟩).n && ((ps.getD k ⟨0, 0, false⟩).write || !prevW ps k)) && M.partsOk N (prevW ps (k + 1)) (ps.drop (k + 1))) := by
  rw [List.drop_eq_getElem_cons h]
  have e : ps.getD k ⟨0, 0, false⟩ = ps[k] := by simp [List.getD, h]
  have e2 : prevW ps (k + 1) = ps[k].write := by unfold prevW; rw [if_neg (by omega), Nat.add_sub_cancel, e]
  rw [e, e2]
  rfl
set_option maxHeartbeats 4000000 in
theorem R15_Post_con {qb mb : Nat} {l : List UInt8} {q : M.DQ} {since : Int} {x1 : Sl} (ps : List M.Part) (hq : q.Inv) (hs : 0 ≤ since ∧ since ≤ 1000000) (hL : M.layCheck l.length q.l = 0) (hl : l.length ≤ 1048576) (hw : ∀ p ∈ ps, i64R p.at_ ∧ i64R p.n) (hlen : x1.n ≤ 281474976710656) :
    Con Tryz.prog (fun w => Rd w x1 3 (partsV ps)) 7 #[.pointer (some ⟨qb, 0, none⟩), .slice x1.a x1.n x1.c] (.tup [.I, .I]) [kqR qb mb (M.kOf q since), memK mb l] (M.postId l q ps, M.postE l q ps, ()) [kqR qb mb (M.kOf (M.postQ1 l q ps) (if M.postE l q ps = 0 then since + ps.length else since)), memK mb (M.postM1 l q ps)] := by
  intro w0 W w B hro h
  refine aqueductref15_Queue_Post.calls ⟨qb, 0, none⟩ x1 ?_
  unfold aqueductref15_Queue_Post.T
  have hy := layCheck_ok hL
  have hsz := hq.ok.size
  have hnx : 0 ≤ q.next.at_ ∧ q.next.at_ < q.l.size := hq.ok.next
  have hxn : ps.length = x1.n := by have := (hro w h.kept).len; rw [partsV_length] at this; omega
  have hE : M.postE l q ps = if ps.length = 0 ∨ 64 < ps.length then 150 else if !M.partsOk l.length false ps then 150 else if q.free < ps.length then 151 else 0 := rfl
  have bad : ∀ e w, M.postE l q ps = e → e ≠ 0 → St w0 W w (kqR qb mb (M.kOf q since) :: memK mb l :: B) → Ending.returned (.tuple #[.int .i64 0, .int .i64 e]) = .returned ((Rk.tup [.I, .I]).v (M.postId l q ps, M.postE l q ps, ())) ∧ St w0 W w (kqR qb mb (M.kOf (M.postQ1 l q ps) (if M.postE l q ps = 0 then since + ps.length else since)) :: memK mb (M.postM1 l q ps) :: B) := by
    intro e w he h0 hst
    unfold M.postId M.postQ1 M.postM1
    rw [he, if_neg h0, if_neg h0, if_neg h0, if_neg h0]
    exact ⟨rfl, hst⟩
  refine t_bindQ (fun x w' => x = (decide (1 ≤ ps.length ∧ ps.length ≤ 64), ()) ∧ w' = w) ?_ ?_
  · refine t_if (fun c => t_jmp ⟨(decide ((x1.n : Int) ≤ 64), ()), rfl, ?_, rfl⟩) (fun c => t_jmp ⟨(false, ()), rfl, ?_, rfl⟩)
    · rw [show decide ((x1.n : Int) ≤ 64) = decide (1 ≤ ps.length ∧ ps.length ≤ 64) by rw [decide_eq_decide]; omega]
    · rw [show decide (1 ≤ ps.length ∧ ps.length ≤ 64) = false by rw [decide_eq_false_iff_not]; omega]
  rintro _ w' ⟨rfl, hw'⟩
  rw [hw']
  clear hw'
  dsimp only
  obtain ⟨s, h⟩ := kq_open h
  have hn : s.n = q.l.size.toNat := by
    have := (own_n h 1 rfl).1
    simp only [intsV, List.length_map, M.kOf, sizesOf_length] at this; omega
  refine t_loop (fun m st w' => ∃ (k : Nat) (ok : Bool), k ≤ ps.length ∧ m = ps.length - k ∧ st = (ok, (k : Int), ()) ∧ (decide (1 ≤ ps.length ∧ ps.length ≤ 64) && M.partsOk l.length false ps) = (ok && M.partsOk l.length (prevW ps k) (ps.drop k)) ∧ St w0 W w' (kqB qb mb (M.kOf q since) s :: ownR s 3 1 (intsV (M.kOf q since).sizes) :: memK mb l :: B)) ps.length ⟨0, _, by omega, rfl, rfl, rfl, h⟩ ?_
  clear h
  rintro m st w ⟨k, ok, hk, rfl, rfl, hinv, h⟩ Ks hJ _
  dsimp only
  refine t_if (fun hc => ?_) (fun hc => ?_)
  · have hlt : k < ps.length := by omega
    rw [partsOk_step _ _ _ hlt] at hinv
    refine t_tickS h fun w h => ?_
    have next : ∀ (b' : Bool) w', (ok && (decide (1 ≤ (ps.getD k ⟨0, 0, false⟩).n) && M.mayAt l.length (ps.getD k ⟨0, 0, false⟩).at_ (ps.getD k ⟨0, 0, false⟩).n && ((ps.getD k ⟨0, 0, false⟩).write || !prevW ps k))) = b' → St w0 W w' (kqB qb mb (M.kOf q since) s :: ownR s 3 1 (intsV (M.kOf q since).sizes) :: memK mb l :: B) → Ks 0 [.bool b', .int .i64 (IntKind.i64.wrap ((k : Int) + 1))] w' := by
      intro b' w' hb hst
      rw [w64 (n := (k : Int) + 1) (by omega)]
      refine hJ (ps.length - (k + 1)) (b', ((k + 1 : Nat) : Int), ()) w' (by omega) ⟨k + 1, b', by omega, rfl, rfl, ?_, hst⟩
      rw [hinv, ← hb]
      simp only [Bool.and_assoc]
    clear hJ hinv
    obtain ⟨t, ht⟩ := partsV_at ps k hlt
    have hpw : i64R (ps.getD k ⟨0, 0, false⟩).at_ ∧ i64R (ps.getD k ⟨0, 0, false⟩).n := by
      rw [show ps.getD k ⟨0, 0, false⟩ = ps[k] by simp [List.getD, hlt]]; exact hw _ (List.getElem_mem hlt)
    have hpv : 0 < k → ∃ t, (partsV ps).drop ((k - 1) * 3) = Part.cells (ps.getD (k - 1) ⟨0, 0, false⟩) ++ t := fun h0 => partsV_at ps (k - 1) (by omega)
    unfold prevW at next
    generalize ps.getD k ⟨0, 0, false⟩ = p at *
    cases ok with
    | false => exact t_false rfl (t_next (next false w (by simp) h))
    | true =>
      refine t_true rfl (t_need (by omega) (t_nilRd (hro w h.kept) (by omega) fun a ha => ?_))
      simp only [Int.toNat_natCast, Addr.add_add]
      refine t_ldRd (k := .I) (x := p.n) (hro w h.kept) ha (by rw [← List.drop_drop, ht]; rfl) ?_
      refine t_if (fun c1 => ?_) (fun c1 => t_next (next false w (by simp [show ¬ 1 ≤ p.n by omega]) h))
      refine t_ldB (x := some ⟨mb, 0, none⟩) h 0 rfl rfl ?_
      refine t_need (by omega) (t_nilRd (hro w h.kept) (by omega) fun a1 ha1 => ?_)
      refine t_ldRd (k := .I) (x := p.at_) (hro w h.kept) ha1 (by rw [← List.drop_drop, ht]; rfl) ?_
      refine t_need (by omega) (t_nilRd (hro w h.kept) (by omega) fun a2 ha2 => ?_)
      refine t_ldRd (k := .I) (x := p.n) (hro w h.kept) ha2 (by rw [← List.drop_drop, ht]; rfl) ?_
      first | refine t_fn (R4_May_con p.at_ p.n hpw.1 hpw.2) h (by repeat (first | exact Sub.nil _ | apply Sub.c0 | apply Sub.c1 | apply Sub.c2 | apply Sub.c3 | apply Sub.c4 | apply Sub.c5 | apply Sub.c6 | apply Sub.c7 | apply Sub.c8 | apply Sub.c9 | apply Sub.c10 | apply Sub.c11 | exact Sub.refl _)) noRo fun w h => ?_ | refine t_fnn (R4_May_con p.at_ p.n hpw.1 hpw.2) h (by repeat (first | exact Sub.nil _ | apply Sub.c0 | apply Sub.c1 | apply Sub.c2 | apply Sub.c3 | apply Sub.c4 | apply Sub.c5 | apply Sub.c6 | apply Sub.c7 | apply Sub.c8 | apply Sub.c9 | apply Sub.c10 | apply Sub.c11 | exact Sub.refl _)) noRo fun w h => ?_
      try dsimp only [List.set, setL, List.eraseIdx, List.cons_append, List.nil_append, List.append_nil, Nat.zero_add, Nat.reduceAdd, Sl.v] at h
      replace h : St w0 W w (kqB qb mb (M.kOf q since) s :: ownR s 3 1 (intsV (M.kOf q since).sizes) :: memK mb l :: B) := h.perm (by repeat (first | exact Sub.nil _ | apply Sub.c0 | apply Sub.c1 | apply Sub.c2 | apply Sub.c3 | apply Sub.c4 | apply Sub.c5 | apply Sub.c6 | apply Sub.c7 | apply Sub.c8 | apply Sub.c9 | apply Sub.c10 | apply Sub.c11 | exact Sub.refl _))
      have d1 : decide (1 ≤ p.n) = true := decide_eq_true (by omega)
      refine t_cond (fun c2 => ?_) (fun c2 => t_next (next false w (by simp [c2]) h))
      refine t_if (fun c3 => t_next (next true w (by rw [d1, c2, if_pos (by omega)]; simp) h)) (fun c3 => ?_)
      refine t_need (by omega) (t_nilRd (hro w h.kept) (by omega) fun a3 ha3 => ?_)
      refine t_ldRd (k := .B) (x := p.write) (hro w h.kept) ha3 (by rw [← List.drop_drop, ht]; rfl) ?_
      refine t_cond (fun c4 => t_next (next true w (by rw [d1, c2, c4]; simp) h)) (fun c4 => ?_)
      rw [w64 (n := (k : Int) - 1) (by omega)]
      refine t_need (by omega) (t_nilRd (hro w h.kept) (by omega) fun a4 ha4 => ?_)
      obtain ⟨t2, ht2⟩ := hpv (by omega)
      rw [show ((k : Int) - 1).toNat = k - 1 by omega]
      refine t_ldRd (k := .B) (x := (ps.getD (k - 1) ⟨0, 0, false⟩).write) (hro w h.kept) ha4 (by rw [← List.drop_drop, ht2]; rfl) ?_
      exact t_next (next _ w (by rw [d1, c2, c4, if_neg (by omega)]; simp) h)
  · have hke : k = ps.length := by omega
    subst hke
    rw [List.drop_length] at hinv
    simp only [M.partsOk, Bool.and_true] at hinv
    clear hJ
    replace h := kq_shut (M.kOf q since) h (by repeat (first | exact Sub.nil _ | apply Sub.c0 | apply Sub.c1 | apply Sub.c2 | apply Sub.c3 | apply Sub.c4 | apply Sub.c5 | apply Sub.c6 | apply Sub.c7 | apply Sub.c8 | apply Sub.c9 | apply Sub.c10 | apply Sub.c11 | exact Sub.refl _))
    cases ok with
    | false =>
      refine t_true rfl (t_ret (bad 150 w ?_ (by decide) (h.perm (by repeat (first | exact Sub.nil _ | apply Sub.c0 | apply Sub.c1 | apply Sub.c2 | apply Sub.c3 | apply Sub.c4 | apply Sub.c5 | apply Sub.c6 | apply Sub.c7 | apply Sub.c8 | apply Sub.c9 | apply Sub.c10 | apply Sub.c11 | exact Sub.refl _)))))
      rw [hE]
      by_cases c : ps.length = 0 ∨ 64 < ps.length
      · rw [if_pos c]
      · rw [if_neg c]
        simp only [show (1 ≤ ps.length ∧ ps.length ≤ 64) by omega, and_self, decide_true, Bool.true_and] at hinv
        rw [hinv]; rfl
    | true =>
      simp only [Bool.and_eq_true, decide_eq_true_eq] at hinv
      refine t_false rfl ?_
      first | refine t_fn (R15_Free_con (since := since) hq) h (by repeat (first | exact Sub.nil _ | apply Sub.c0 | apply Sub.c1 | apply Sub.c2 | apply Sub.c3 | apply Sub.c4 | apply Sub.c5 | apply Sub.c6 | apply Sub.c7 | apply Sub.c8 | apply Sub.c9 | apply Sub.c10 | apply Sub.c11 | exact Sub.refl _)) noRo fun w h => ?_ | refine t_fnn (R15_Free_con (since := since) hq) h (by repeat (first | exact Sub.nil _ | apply Sub.c0 | apply Sub.c1 | apply Sub.c2 | apply Sub.c3 | apply Sub.c4 | apply Sub.c5 | apply Sub.c6 | apply Sub.c7 | apply Sub.c8 | apply Sub.c9 | apply Sub.c10 | apply Sub.c11 | exact Sub.refl _)) noRo fun w h => ?_
      try dsimp only [List.set, setL, List.eraseIdx, List.cons_append, List.nil_append, List.append_nil, Nat.zero_add, Nat.reduceAdd, Sl.v] at h
      refine t_if (fun c1 => t_ret (bad 151 w ?_ (by decide) (h.perm (by repeat (first | exact Sub.nil _ | apply Sub.c0 | apply Sub.c1 | apply Sub.c2 | apply Sub.c3 | apply Sub.c4 | apply Sub.c5 | apply Sub.c6 | apply Sub.c7 | apply Sub.c8 | apply Sub.c9 | apply Sub.c10 | apply Sub.c11 | exact Sub.refl _))))) (fun c1 => ?_)
      · rw [hE, if_neg (by omega), hinv.2, if_neg (by simp), if_pos (by omega)]
      have hE0 : M.postE l q ps = 0 := by rw [hE, if_neg (by omega), hinv.2, if_neg (by simp), if_neg (by omega)]
      have hid : M.postId l q ps = (M.leastId q.held : Nat) := if_pos hE0
      have hq1 : M.postQ1 l q ps = M.postQ l q ps := if_pos hE0
      have hm1 : M.postM1 l q ps = M.postMem l q ps := if_pos hE0
      rw [hE0, hid, hq1, hm1, if_pos rfl, postMem_ring hq (by omega) hE0 hl]
      have hfr := hq.ok.free
      have hlid := leastId_lt hq (by omega)
      have hall := partsOk_all hinv.2
      clear hE bad hE0 hid hq1 hm1
      obtain ⟨s, h⟩ := kq_open h
      have hn : s.n = q.l.size.toNat := by
        have := (own_n h 1 rfl).1
        simp only [intsV, List.length_map, M.kOf, sizesOf_length] at this; omega
      -- the least id that is free
      refine t_loop (fun m st w' => ∃ j : Nat, j ≤ M.leastId q.held ∧ m = M.leastId q.held - j ∧ st = ((j : Int), ()) ∧ w' = w) (M.leastId q.held) ⟨0, by omega, rfl, rfl, rfl⟩ ?_
      rintro m st w' ⟨j, hj, rfl, rfl, hw'⟩ Ks2 hJ2 _
      subst hw'
      dsimp only
      refine t_ldB (x := s) h 0 rfl rfl ?_
      refine t_need (by omega) (t_nilO (s := s) h 1 rfl (by omega) fun a ha => ?_)
      rw [Int.toNat_natCast]
      refine t_ldO (s := s) h 1 rfl ha (x := M.sizeOf q.held (j : Int)) (by rw [intsV_get (by simp only [M.kOf, sizesOf_length]; omega)]; simp only [M.kOf]; rw [sizesOf_get _ (by omega)]; rfl) ?_
      refine t_if (fun c2 => ?_) (fun c2 => ?_)
      · have hne : j ≠ M.leastId q.held := fun he => by rw [he, least_no] at c2; omega
        rw [w64 (n := (j : Int) + 1) (by omega)]
        exact t_next (hJ2 (M.leastId q.held - (j + 1)) (((j + 1 : Nat) : Int), ()) _ (by omega) ⟨j + 1, by omega, rfl, rfl, rfl⟩)
      have hje : j = M.leastId q.held := by
        rcases Nat.lt_or_ge j (M.leastId q.held) with h1 | h1
        · exact absurd ((sizeOf_pos hq.ok.pos).2 ((leastId_le q.held).1 j h1)) c2
        · omega
      subst hje
      clear hJ2 c2
      -- the ring
      refine t_loop (fun m st w' => ∃ (k : Nat) (lk : List UInt8), k ≤ ps.length ∧ m = ps.length - k ∧ st = ((k : Int), ()) ∧ lk.length = l.length ∧ M.ringGo q.l.ring q.l.size (M.leastId q.held : Nat) ps.length 0 ps l q.next = M.ringGo q.l.ring q.l.size (M.leastId q.held : Nat) ps.length k (ps.drop k) lk (M.spotNext q.next k q.l.size).1 ∧ St w0 W w' (kqB qb mb (M.kOf q since) s :: ownR s 3 1 (intsV (M.kOf q since).sizes) :: memK mb lk :: B)) ps.length ⟨0, l, by omega, rfl, rfl, rfl, ?_, h⟩ ?_
      · rw [show ((0 : Nat) : Int) = 0 from rfl, spotNext_zero hsz hnx]; rfl
      clear h ha
      rintro m st w ⟨k, lk, hk, rfl, rfl, hlk, hring, h⟩ Ks3 hJ3 _
      dsimp only
      have hin := (spotNext_in hnx hsz (n := (k : Int)) (by omega)).1
      refine t_if (fun c3 => ?_) (fun c3 => ?_)
      · have hlt : k < ps.length := by omega
        have hd : ps.drop k = ps[k] :: ps.drop (k + 1) := by rw [List.drop_eq_getElem_cons hlt]
        rw [hd, ringGo_cons] at hring
        have hsucc := spotNext_succ hsz hnx (n := (k : Int)) (by omega)
        have hone := spotNext_1 hsz hin
        rw [hone, ← hsucc] at hring
        have hpp := hall ps[k] (List.getElem_mem hlt)
        obtain ⟨t, ht⟩ := partsV_at ps k hlt
        rw [show ps.getD k ⟨0, 0, false⟩ = ps[k] by simp [List.getD, hlt]] at ht
        generalize ps[k] = p at *
        have next : ∀ w', St w0 W w' (kqB qb mb (M.kOf q since) s :: ownR s 3 1 (intsV (M.kOf q since).sizes) :: memK mb (M.writeM lk (q.l.ring + 16 * (M.spotNext q.next k q.l.size).1.at_) (M.buildB ⟨p.at_, p.n, (M.leastId q.held : Nat), M.postFlags ps.length k p (M.spotNext q.next k q.l.size).1.wrap⟩)) :: B) → Ks3 0 [.int .i64 (IntKind.i64.wrap ((k : Int) + 1))] w' := by
          intro w' hst
          rw [w64 (n := (k : Int) + 1) (by omega)]
          exact hJ3 (ps.length - (k + 1)) (((k + 1 : Nat) : Int), ()) w' (by omega) ⟨k + 1, _, by omega, rfl, rfl, by rw [writeM_length]; exact hlk, hring, hst⟩
        clear hJ3 hring hsucc hone hd
        refine t_bindQ (fun x w' => x = ((if k + 1 < ps.length then 1 else 0 : Int), ()) ∧ w' = w) ?_ ?_
        · rw [w64 (n := (x1.n : Int) - 1) (by omega)]
          refine t_if (fun c1 => t_jmp ⟨((1 : Int), ()), rfl, by rw [if_pos (by omega)], rfl⟩) (fun c1 => t_jmp ⟨((0 : Int), ()), rfl, by rw [if_neg (by omega)], rfl⟩)
        rintro _ w' ⟨rfl, hw'⟩
        rw [hw']
        clear hw'
        dsimp only
        have hb0 : (0 : Int) ≤ (if k + 1 < ps.length then 1 else 0) ∧ (if k + 1 < ps.length then 1 else 0 : Int) ≤ 1 := by split <;> omega
        refine t_bindQ (fun x w' => x = ((if k + 1 < ps.length then 1 else 0 : Int) + (if p.write then 2 else 0), ()) ∧ w' = w) ?_ ?_
        · refine t_need (by omega) (t_nilRd (hro w h.kept) (by omega) fun a ha => ?_)
          simp only [Int.toNat_natCast, Addr.add_add]
          refine t_ldRd (k := .B) (x := p.write) (hro w h.kept) ha (by rw [← List.drop_drop, ht]; rfl) ?_
          refine t_cond (fun c1 => t_jmp ⟨(IntKind.i64.wrap ((if k + 1 < ps.length then 1 else 0 : Int) + 2), ()), rfl, ?_, rfl⟩) (fun c1 => t_jmp ⟨((if k + 1 < ps.length then 1 else 0 : Int), ()), rfl, by rw [c1]; simp, rfl⟩)
          rw [w64 (by omega), c1]; rfl
        rintro _ w' ⟨rfl, hw'⟩
        rw [hw']
        clear hw'
        have hfl : M.postFlags ps.length k p (M.spotNext q.next k q.l.size).1.wrap = M.mark ((if k + 1 < ps.length then 1 else 0 : Int) + (if p.write then 2 else 0)) (M.spotNext q.next k q.l.size).1.wrap false := rfl
        have hflr := postFlags_lt ps.length k p (M.spotNext q.next k q.l.size).1.wrap
        have hf4 : 0 ≤ (if k + 1 < ps.length then 1 else 0 : Int) + (if p.write then 2 else 0) ∧ (if k + 1 < ps.length then 1 else 0 : Int) + (if p.write then 2 else 0) < 4 := by split <;> split <;> omega
        rw [hfl] at next hflr
        generalize (if k + 1 < ps.length then 1 else 0 : Int) + (if p.write then 2 else 0) = f at *
        dsimp only
        repeat (first
          | refine t_tickS h fun w h => ?_
          | refine t_keepN ?_
          | refine t_ldB h 0 rfl rfl ?_
          | refine t_ldB h 1 rfl rfl ?_
          | refine t_ldB h 2 rfl rfl ?_
          | refine t_ldB h 3 rfl rfl ?_
          | refine t_ldB h 4 rfl rfl ?_
          | refine t_ldB h 5 rfl rfl ?_
          | refine t_ldB h 6 rfl rfl ?_
          | refine t_ldB h 7 rfl rfl ?_
          | refine t_ldB h 8 rfl rfl ?_
          | refine t_ldB h 9 rfl rfl ?_
          | refine t_ldO h 0 rfl rfl rfl ?_
          | refine t_ldO h 1 rfl rfl rfl ?_
          | refine t_ldO h 2 rfl rfl rfl ?_
          | refine t_ldO h 3 rfl rfl rfl ?_
          | refine t_ldO h 4 rfl rfl rfl ?_
          | refine t_ldO h 5 rfl rfl rfl ?_
          | refine t_ldO h 6 rfl rfl rfl ?_
          | refine t_ldO h 7 rfl rfl rfl ?_
          | refine t_ldO h 8 rfl rfl rfl ?_
          | refine t_ldO h 9 rfl rfl rfl ?_
          | refine t_keepB h 0 rfl rfl ?_
          | refine t_keepB h 1 rfl rfl ?_
          | refine t_keepB h 2 rfl rfl ?_
          | refine t_keepB h 3 rfl rfl ?_
          | refine t_keepB h 4 rfl rfl ?_
          | refine t_keepB h 5 rfl rfl ?_
          | refine t_keepB h 6 rfl rfl ?_
          | refine t_keepB h 7 rfl rfl ?_
          | refine t_keepB h 8 rfl rfl ?_
          | refine t_keepB h 9 rfl rfl ?_
          | (refine t_stB h 0 rfl (by simp [setL]) (by simp [Value.oneCell']) fun w h => ?_; try dsimp only [List.set, setL, List.eraseIdx, List.cons_append, List.nil_append, List.append_nil, Nat.zero_add, Nat.reduceAdd, Sl.v] at h)
          | (refine t_stB h 1 rfl (by simp [setL]) (by simp [Value.oneCell']) fun w h => ?_; try dsimp only [List.set, setL, List.eraseIdx, List.cons_append, List.nil_append, List.append_nil, Nat.zero_add, Nat.reduceAdd, Sl.v] at h)
          | (refine t_stB h 2 rfl (by simp [setL]) (by simp [Value.oneCell']) fun w h => ?_; try dsimp only [List.set, setL, List.eraseIdx, List.cons_append, List.nil_append, List.append_nil, Nat.zero_add, Nat.reduceAdd, Sl.v] at h)
          | (refine t_stB h 3 rfl (by simp [setL]) (by simp [Value.oneCell']) fun w h => ?_; try dsimp only [List.set, setL, List.eraseIdx, List.cons_append, List.nil_append, List.append_nil, Nat.zero_add, Nat.reduceAdd, Sl.v] at h)
          | (refine t_stB h 4 rfl (by simp [setL]) (by simp [Value.oneCell']) fun w h => ?_; try dsimp only [List.set, setL, List.eraseIdx, List.cons_append, List.nil_append, List.append_nil, Nat.zero_add, Nat.reduceAdd, Sl.v] at h)
          | (refine t_stB h 5 rfl (by simp [setL]) (by simp [Value.oneCell']) fun w h => ?_; try dsimp only [List.set, setL, List.eraseIdx, List.cons_append, List.nil_append, List.append_nil, Nat.zero_add, Nat.reduceAdd, Sl.v] at h)
          | (refine t_stB h 6 rfl (by simp [setL]) (by simp [Value.oneCell']) fun w h => ?_; try dsimp only [List.set, setL, List.eraseIdx, List.cons_append, List.nil_append, List.append_nil, Nat.zero_add, Nat.reduceAdd, Sl.v] at h)
          | (refine t_stB h 7 rfl (by simp [setL]) (by simp [Value.oneCell']) fun w h => ?_; try dsimp only [List.set, setL, List.eraseIdx, List.cons_append, List.nil_append, List.append_nil, Nat.zero_add, Nat.reduceAdd, Sl.v] at h)
          | (refine t_stB h 8 rfl (by simp [setL]) (by simp [Value.oneCell']) fun w h => ?_; try dsimp only [List.set, setL, List.eraseIdx, List.cons_append, List.nil_append, List.append_nil, Nat.zero_add, Nat.reduceAdd, Sl.v] at h)
          | (refine t_stB h 9 rfl (by simp [setL]) (by simp [Value.oneCell']) fun w h => ?_; try dsimp only [List.set, setL, List.eraseIdx, List.cons_append, List.nil_append, List.append_nil, Nat.zero_add, Nat.reduceAdd, Sl.v] at h)
          | refine t_newB h (by simp [Value.oneCell']) fun w b h hb => ?_
          | refine t_nil ?_
          | refine t_true rfl ?_
          | refine t_false rfl ?_
          | refine t_yes rfl ?_
          | refine t_nyes rfl ?_
          | refine t_no (by decide) ?_
          | refine t_nno (by decide) ?_
          | refine t_need (by decide) ?_)
        try dsimp only [List.set, setL, List.eraseIdx, List.cons_append, List.nil_append, List.append_nil, Nat.zero_add, Nat.reduceAdd, Sl.v] at h
        refine t_both ?_ (t_newB h (by simp [Value.oneCell']) fun w nb h hnb => t_keepB h 1 rfl rfl (t_keepB h 1 rfl rfl (t_keepN ?_)))
        all_goals (
          first | refine t_fn (R13_Next_con q.next (k : Int) q.l.size) h (by repeat (first | exact Sub.nil _ | apply Sub.c0 | apply Sub.c1 | apply Sub.c2 | apply Sub.c3 | apply Sub.c4 | apply Sub.c5 | apply Sub.c6 | apply Sub.c7 | apply Sub.c8 | apply Sub.c9 | apply Sub.c10 | apply Sub.c11 | exact Sub.refl _)) noRo fun w h => ?_ | refine t_fnn (R13_Next_con q.next (k : Int) q.l.size) h (by repeat (first | exact Sub.nil _ | apply Sub.c0 | apply Sub.c1 | apply Sub.c2 | apply Sub.c3 | apply Sub.c4 | apply Sub.c5 | apply Sub.c6 | apply Sub.c7 | apply Sub.c8 | apply Sub.c9 | apply Sub.c10 | apply Sub.c11 | exact Sub.refl _)) noRo fun w h => ?_
          try dsimp only [List.set, setL, List.eraseIdx, List.cons_append, List.nil_append, List.append_nil, Nat.zero_add, Nat.reduceAdd, Sl.v] at h
          dsimp only [M.kOf]
          generalize (M.spotNext q.next k q.l.size).1 = sp at *
          have hsp : 0 ≤ sp.at_ ∧ sp.at_ < q.l.size := hin
          repeat (first
            | refine t_tickS h fun w h => ?_
            | refine t_keepN ?_
            | refine t_ldB h 0 rfl rfl ?_
            | refine t_ldB h 1 rfl rfl ?_
            | refine t_ldB h 2 rfl rfl ?_
            | refine t_ldB h 3 rfl rfl ?_
            | refine t_ldB h 4 rfl rfl ?_
            | refine t_ldB h 5 rfl rfl ?_
            | refine t_ldB h 6 rfl rfl ?_
            | refine t_ldB h 7 rfl rfl ?_
            | refine t_ldB h 8 rfl rfl ?_
            | refine t_ldB h 9 rfl rfl ?_
            | refine t_ldO h 0 rfl rfl rfl ?_
            | refine t_ldO h 1 rfl rfl rfl ?_
            | refine t_ldO h 2 rfl rfl rfl ?_
            | refine t_ldO h 3 rfl rfl rfl ?_
            | refine t_ldO h 4 rfl rfl rfl ?_
            | refine t_ldO h 5 rfl rfl rfl ?_
            | refine t_ldO h 6 rfl rfl rfl ?_
            | refine t_ldO h 7 rfl rfl rfl ?_
            | refine t_ldO h 8 rfl rfl rfl ?_
            | refine t_ldO h 9 rfl rfl rfl ?_
            | refine t_keepB h 0 rfl rfl ?_
            | refine t_keepB h 1 rfl rfl ?_
            | refine t_keepB h 2 rfl rfl ?_
            | refine t_keepB h 3 rfl rfl ?_
            | refine t_keepB h 4 rfl rfl ?_
            | refine t_keepB h 5 rfl rfl ?_
            | refine t_keepB h 6 rfl rfl ?_
            | refine t_keepB h 7 rfl rfl ?_
            | refine t_keepB h 8 rfl rfl ?_
            | refine t_keepB h 9 rfl rfl ?_
            | (refine t_stB h 0 rfl (by simp [setL]) (by simp [Value.oneCell']) fun w h => ?_; try dsimp only [List.set, setL, List.eraseIdx, List.cons_append, List.nil_append, List.append_nil, Nat.zero_add, Nat.reduceAdd, Sl.v] at h)
            | (refine t_stB h 1 rfl (by simp [setL]) (by simp [Value.oneCell']) fun w h => ?_; try dsimp only [List.set, setL, List.eraseIdx, List.cons_append, List.nil_append, List.append_nil, Nat.zero_add, Nat.reduceAdd, Sl.v] at h)
            | (refine t_stB h 2 rfl (by simp [setL]) (by simp [Value.oneCell']) fun w h => ?_; try dsimp only [List.set, setL, List.eraseIdx, List.cons_append, List.nil_append, List.append_nil, Nat.zero_add, Nat.reduceAdd, Sl.v] at h)
            | (refine t_stB h 3 rfl (by simp [setL]) (by simp [Value.oneCell']) fun w h => ?_; try dsimp only [List.set, setL, List.eraseIdx, List.cons_append, List.nil_append, List.append_nil, Nat.zero_add, Nat.reduceAdd, Sl.v] at h)
            | (refine t_stB h 4 rfl (by simp [setL]) (by simp [Value.oneCell']) fun w h => ?_; try dsimp only [List.set, setL, List.eraseIdx, List.cons_append, List.nil_append, List.append_nil, Nat.zero_add, Nat.reduceAdd, Sl.v] at h)
            | (refine t_stB h 5 rfl (by simp [setL]) (by simp [Value.oneCell']) fun w h => ?_; try dsimp only [List.set, setL, List.eraseIdx, List.cons_append, List.nil_append, List.append_nil, Nat.zero_add, Nat.reduceAdd, Sl.v] at h)
            | (refine t_stB h 6 rfl (by simp [setL]) (by simp [Value.oneCell']) fun w h => ?_; try dsimp only [List.set, setL, List.eraseIdx, List.cons_append, List.nil_append, List.append_nil, Nat.zero_add, Nat.reduceAdd, Sl.v] at h)
            | (refine t_stB h 7 rfl (by simp [setL]) (by simp [Value.oneCell']) fun w h => ?_; try dsimp only [List.set, setL, List.eraseIdx, List.cons_append, List.nil_append, List.append_nil, Nat.zero_add, Nat.reduceAdd, Sl.v] at h)
            | (refine t_stB h 8 rfl (by simp [setL]) (by simp [Value.oneCell']) fun w h => ?_; try dsimp only [List.set, setL, List.eraseIdx, List.cons_append, List.nil_append, List.append_nil, Nat.zero_add, Nat.reduceAdd, Sl.v] at h)
            | (refine t_stB h 9 rfl (by simp [setL]) (by simp [Value.oneCell']) fun w h => ?_; try dsimp only [List.set, setL, List.eraseIdx, List.cons_append, List.nil_append, List.append_nil, Nat.zero_add, Nat.reduceAdd, Sl.v] at h)
            | refine t_newB h (by simp [Value.oneCell']) fun w b h hb => ?_
            | refine t_nil ?_
            | refine t_true rfl ?_
            | refine t_false rfl ?_
            | refine t_yes rfl ?_
            | refine t_nyes rfl ?_
            | refine t_no (by decide) ?_
            | refine t_nno (by decide) ?_
            | refine t_need (by decide) ?_)
          try dsimp only [List.set, setL, List.eraseIdx, List.cons_append, List.nil_append, List.append_nil, Nat.zero_add, Nat.reduceAdd, Sl.v] at h
          refine t_need (by omega) (t_nilRd (hro w h.kept) (by omega) fun a ha => ?_)
          simp only [Int.toNat_natCast, Addr.add_add]
          refine t_ldRd (k := .I) (x := p.at_) (hro w h.kept) ha (by rw [← List.drop_drop, ht]; rfl) ?_
          refine t_need (by omega) (t_nilRd (hro w h.kept) (by omega) fun a2 ha2 => ?_)
          refine t_ldRd (k := .I) (x := p.n) (hro w h.kept) ha2 (by rw [← List.drop_drop, ht]; rfl) ?_
          repeat (first
            | refine t_tickS h fun w h => ?_
            | refine t_keepN ?_
            | refine t_ldB h 0 rfl rfl ?_
            | refine t_ldB h 1 rfl rfl ?_
            | refine t_ldB h 2 rfl rfl ?_
            | refine t_ldB h 3 rfl rfl ?_
            | refine t_ldB h 4 rfl rfl ?_
            | refine t_ldB h 5 rfl rfl ?_
            | refine t_ldB h 6 rfl rfl ?_
            | refine t_ldB h 7 rfl rfl ?_
            | refine t_ldB h 8 rfl rfl ?_
            | refine t_ldB h 9 rfl rfl ?_
            | refine t_ldO h 0 rfl rfl rfl ?_
            | refine t_ldO h 1 rfl rfl rfl ?_
            | refine t_ldO h 2 rfl rfl rfl ?_
            | refine t_ldO h 3 rfl rfl rfl ?_
            | refine t_ldO h 4 rfl rfl rfl ?_
            | refine t_ldO h 5 rfl rfl rfl ?_
            | refine t_ldO h 6 rfl rfl rfl ?_
            | refine t_ldO h 7 rfl rfl rfl ?_
            | refine t_ldO h 8 rfl rfl rfl ?_
            | refine t_ldO h 9 rfl rfl rfl ?_
            | refine t_keepB h 0 rfl rfl ?_
            | refine t_keepB h 1 rfl rfl ?_
            | refine t_keepB h 2 rfl rfl ?_
            | refine t_keepB h 3 rfl rfl ?_
            | refine t_keepB h 4 rfl rfl ?_
            | refine t_keepB h 5 rfl rfl ?_
            | refine t_keepB h 6 rfl rfl ?_
            | refine t_keepB h 7 rfl rfl ?_
            | refine t_keepB h 8 rfl rfl ?_
            | refine t_keepB h 9 rfl rfl ?_
            | (refine t_stB h 0 rfl (by simp [setL]) (by simp [Value.oneCell']) fun w h => ?_; try dsimp only [List.set, setL, List.eraseIdx, List.cons_append, List.nil_append, List.append_nil, Nat.zero_add, Nat.reduceAdd, Sl.v] at h)
            | (refine t_stB h 1 rfl (by simp [setL]) (by simp [Value.oneCell']) fun w h => ?_; try dsimp only [List.set, setL, List.eraseIdx, List.cons_append, List.nil_append, List.append_nil, Nat.zero_add, Nat.reduceAdd, Sl.v] at h)
            | (refine t_stB h 2 rfl (by simp [setL]) (by simp [Value.oneCell']) fun w h => ?_; try dsimp only [List.set, setL, List.eraseIdx, List.cons_append, List.nil_append, List.append_nil, Nat.zero_add, Nat.reduceAdd, Sl.v] at h)
            | (refine t_stB h 3 rfl (by simp [setL]) (by simp [Value.oneCell']) fun w h => ?_; try dsimp only [List.set, setL, List.eraseIdx, List.cons_append, List.nil_append, List.append_nil, Nat.zero_add, Nat.reduceAdd, Sl.v] at h)
            | (refine t_stB h 4 rfl (by simp [setL]) (by simp [Value.oneCell']) fun w h => ?_; try dsimp only [List.set, setL, List.eraseIdx, List.cons_append, List.nil_append, List.append_nil, Nat.zero_add, Nat.reduceAdd, Sl.v] at h)
            | (refine t_stB h 5 rfl (by simp [setL]) (by simp [Value.oneCell']) fun w h => ?_; try dsimp only [List.set, setL, List.eraseIdx, List.cons_append, List.nil_append, List.append_nil, Nat.zero_add, Nat.reduceAdd, Sl.v] at h)
            | (refine t_stB h 6 rfl (by simp [setL]) (by simp [Value.oneCell']) fun w h => ?_; try dsimp only [List.set, setL, List.eraseIdx, List.cons_append, List.nil_append, List.append_nil, Nat.zero_add, Nat.reduceAdd, Sl.v] at h)
            | (refine t_stB h 7 rfl (by simp [setL]) (by simp [Value.oneCell']) fun w h => ?_; try dsimp only [List.set, setL, List.eraseIdx, List.cons_append, List.nil_append, List.append_nil, Nat.zero_add, Nat.reduceAdd, Sl.v] at h)
            | (refine t_stB h 8 rfl (by simp [setL]) (by simp [Value.oneCell']) fun w h => ?_; try dsimp only [List.set, setL, List.eraseIdx, List.cons_append, List.nil_append, List.append_nil, Nat.zero_add, Nat.reduceAdd, Sl.v] at h)
            | (refine t_stB h 9 rfl (by simp [setL]) (by simp [Value.oneCell']) fun w h => ?_; try dsimp only [List.set, setL, List.eraseIdx, List.cons_append, List.nil_append, List.append_nil, Nat.zero_add, Nat.reduceAdd, Sl.v] at h)
            | refine t_newB h (by simp [Value.oneCell']) fun w b h hb => ?_
            | refine t_nil ?_
            | refine t_true rfl ?_
            | refine t_false rfl ?_
            | refine t_yes rfl ?_
            | refine t_nyes rfl ?_
            | refine t_no (by decide) ?_
            | refine t_nno (by decide) ?_
            | refine t_need (by decide) ?_)
          try dsimp only [List.set, setL, List.eraseIdx, List.cons_append, List.nil_append, List.append_nil, Nat.zero_add, Nat.reduceAdd, Sl.v] at h
          first | refine t_fn (R12_Mark_con f sp.wrap false hf4) h (by repeat (first | exact Sub.nil _ | apply Sub.c0 | apply Sub.c1 | apply Sub.c2 | apply Sub.c3 | apply Sub.c4 | apply Sub.c5 | apply Sub.c6 | apply Sub.c7 | apply Sub.c8 | apply Sub.c9 | apply Sub.c10 | apply Sub.c11 | exact Sub.refl _)) noRo fun w h => ?_ | refine t_fnn (R12_Mark_con f sp.wrap false hf4) h (by repeat (first | exact Sub.nil _ | apply Sub.c0 | apply Sub.c1 | apply Sub.c2 | apply Sub.c3 | apply Sub.c4 | apply Sub.c5 | apply Sub.c6 | apply Sub.c7 | apply Sub.c8 | apply Sub.c9 | apply Sub.c10 | apply Sub.c11 | exact Sub.refl _)) noRo fun w h => ?_
          try dsimp only [List.set, setL, List.eraseIdx, List.cons_append, List.nil_append, List.append_nil, Nat.zero_add, Nat.reduceAdd, Sl.v] at h
          refine t_keepRd (hro w h.kept) ha2 (by rw [← List.drop_drop, ht]; rfl) (t_keepRd (hro w h.kept) ha (by rw [← List.drop_drop, ht]; rfl) (t_keepN ?_))
          rw [u64 (n := p.at_) (by omega), IntWalk.u32_in p.n (by omega)]
          first | refine t_fn (R12_Build_con ⟨p.at_, p.n, (M.leastId q.held : Nat), M.mark f sp.wrap false⟩ (by dsimp only; omega) (by dsimp only; omega) (by dsimp only; omega) hflr) h (by repeat (first | exact Sub.nil _ | apply Sub.c0 | apply Sub.c1 | apply Sub.c2 | apply Sub.c3 | apply Sub.c4 | apply Sub.c5 | apply Sub.c6 | apply Sub.c7 | apply Sub.c8 | apply Sub.c9 | apply Sub.c10 | apply Sub.c11 | exact Sub.refl _)) noRo fun w h => ?_ | refine t_fnn (R12_Build_con ⟨p.at_, p.n, (M.leastId q.held : Nat), M.mark f sp.wrap false⟩ (by dsimp only; omega) (by dsimp only; omega) (by dsimp only; omega) hflr) h (by repeat (first | exact Sub.nil _ | apply Sub.c0 | apply Sub.c1 | apply Sub.c2 | apply Sub.c3 | apply Sub.c4 | apply Sub.c5 | apply Sub.c6 | apply Sub.c7 | apply Sub.c8 | apply Sub.c9 | apply Sub.c10 | apply Sub.c11 | exact Sub.refl _)) noRo fun w h => ?_
          try dsimp only [List.set, setL, List.eraseIdx, List.cons_append, List.nil_append, List.append_nil, Nat.zero_add, Nat.reduceAdd, Sl.v] at h
          repeat (first
            | refine t_tickS h fun w h => ?_
            | refine t_keepN ?_
            | refine t_ldB h 0 rfl rfl ?_
            | refine t_ldB h 1 rfl rfl ?_
            | refine t_ldB h 2 rfl rfl ?_
            | refine t_ldB h 3 rfl rfl ?_
            | refine t_ldB h 4 rfl rfl ?_
            | refine t_ldB h 5 rfl rfl ?_
            | refine t_ldB h 6 rfl rfl ?_
            | refine t_ldB h 7 rfl rfl ?_
            | refine t_ldB h 8 rfl rfl ?_
            | refine t_ldB h 9 rfl rfl ?_
            | refine t_ldO h 0 rfl rfl rfl ?_
            | refine t_ldO h 1 rfl rfl rfl ?_
            | refine t_ldO h 2 rfl rfl rfl ?_
            | refine t_ldO h 3 rfl rfl rfl ?_
            | refine t_ldO h 4 rfl rfl rfl ?_
            | refine t_ldO h 5 rfl rfl rfl ?_
            | refine t_ldO h 6 rfl rfl rfl ?_
            | refine t_ldO h 7 rfl rfl rfl ?_
            | refine t_ldO h 8 rfl rfl rfl ?_
            | refine t_ldO h 9 rfl rfl rfl ?_
            | refine t_keepB h 0 rfl rfl ?_
            | refine t_keepB h 1 rfl rfl ?_
            | refine t_keepB h 2 rfl rfl ?_
            | refine t_keepB h 3 rfl rfl ?_
            | refine t_keepB h 4 rfl rfl ?_
            | refine t_keepB h 5 rfl rfl ?_
            | refine t_keepB h 6 rfl rfl ?_
            | refine t_keepB h 7 rfl rfl ?_
            | refine t_keepB h 8 rfl rfl ?_
            | refine t_keepB h 9 rfl rfl ?_
            | (refine t_stB h 0 rfl (by simp [setL]) (by simp [Value.oneCell']) fun w h => ?_; try dsimp only [List.set, setL, List.eraseIdx, List.cons_append, List.nil_append, List.append_nil, Nat.zero_add, Nat.reduceAdd, Sl.v] at h)
            | (refine t_stB h 1 rfl (by simp [setL]) (by simp [Value.oneCell']) fun w h => ?_; try dsimp only [List.set, setL, List.eraseIdx, List.cons_append, List.nil_append, List.append_nil, Nat.zero_add, Nat.reduceAdd, Sl.v] at h)
            | (refine t_stB h 2 rfl (by simp [setL]) (by simp [Value.oneCell']) fun w h => ?_; try dsimp only [List.set, setL, List.eraseIdx, List.cons_append, List.nil_append, List.append_nil, Nat.zero_add, Nat.reduceAdd, Sl.v] at h)
            | (refine t_stB h 3 rfl (by simp [setL]) (by simp [Value.oneCell']) fun w h => ?_; try dsimp only [List.set, setL, List.eraseIdx, List.cons_append, List.nil_append, List.append_nil, Nat.zero_add, Nat.reduceAdd, Sl.v] at h)
            | (refine t_stB h 4 rfl (by simp [setL]) (by simp [Value.oneCell']) fun w h => ?_; try dsimp only [List.set, setL, List.eraseIdx, List.cons_append, List.nil_append, List.append_nil, Nat.zero_add, Nat.reduceAdd, Sl.v] at h)
            | (refine t_stB h 5 rfl (by simp [setL]) (by simp [Value.oneCell']) fun w h => ?_; try dsimp only [List.set, setL, List.eraseIdx, List.cons_append, List.nil_append, List.append_nil, Nat.zero_add, Nat.reduceAdd, Sl.v] at h)
            | (refine t_stB h 6 rfl (by simp [setL]) (by simp [Value.oneCell']) fun w h => ?_; try dsimp only [List.set, setL, List.eraseIdx, List.cons_append, List.nil_append, List.append_nil, Nat.zero_add, Nat.reduceAdd, Sl.v] at h)
            | (refine t_stB h 7 rfl (by simp [setL]) (by simp [Value.oneCell']) fun w h => ?_; try dsimp only [List.set, setL, List.eraseIdx, List.cons_append, List.nil_append, List.append_nil, Nat.zero_add, Nat.reduceAdd, Sl.v] at h)
            | (refine t_stB h 8 rfl (by simp [setL]) (by simp [Value.oneCell']) fun w h => ?_; try dsimp only [List.set, setL, List.eraseIdx, List.cons_append, List.nil_append, List.append_nil, Nat.zero_add, Nat.reduceAdd, Sl.v] at h)
            | (refine t_stB h 9 rfl (by simp [setL]) (by simp [Value.oneCell']) fun w h => ?_; try dsimp only [List.set, setL, List.eraseIdx, List.cons_append, List.nil_append, List.append_nil, Nat.zero_add, Nat.reduceAdd, Sl.v] at h)
            | refine t_newB h (by simp [Value.oneCell']) fun w b h hb => ?_
            | refine t_nil ?_
            | refine t_true rfl ?_
            | refine t_false rfl ?_
            | refine t_yes rfl ?_
            | refine t_nyes rfl ?_
            | refine t_no (by decide) ?_
            | refine t_nno (by decide) ?_
            | refine t_need (by decide) ?_)
          try dsimp only [List.set, setL, List.eraseIdx, List.cons_append, List.nil_append, List.append_nil, Nat.zero_add, Nat.reduceAdd, Sl.v] at h
          dsimp only [M.kOf]
          rw [w64 (n := 16 * sp.at_) (by omega), w64 (n := q.l.ring + 16 * sp.at_) (by omega)]
          first | refine t_fn (R4_Write_con (q.l.ring + 16 * sp.at_) (M.buildB ⟨p.at_, p.n, (M.leastId q.held : Nat), M.mark f sp.wrap false⟩) (by unfold i64R; omega) (by rw [buildB_length]; decide)) h (by repeat (first | exact Sub.nil _ | apply Sub.c0 | apply Sub.c1 | apply Sub.c2 | apply Sub.c3 | apply Sub.c4 | apply Sub.c5 | apply Sub.c6 | apply Sub.c7 | apply Sub.c8 | apply Sub.c9 | apply Sub.c10 | apply Sub.c11 | exact Sub.refl _)) noRo fun w h => ?_ | refine t_fnn (R4_Write_con (q.l.ring + 16 * sp.at_) (M.buildB ⟨p.at_, p.n, (M.leastId q.held : Nat), M.mark f sp.wrap false⟩) (by unfold i64R; omega) (by rw [buildB_length]; decide)) h (by repeat (first | exact Sub.nil _ | apply Sub.c0 | apply Sub.c1 | apply Sub.c2 | apply Sub.c3 | apply Sub.c4 | apply Sub.c5 | apply Sub.c6 | apply Sub.c7 | apply Sub.c8 | apply Sub.c9 | apply Sub.c10 | apply Sub.c11 | exact Sub.refl _)) noRo fun w h => ?_
          try dsimp only [List.set, setL, List.eraseIdx, List.cons_append, List.nil_append, List.append_nil, Nat.zero_add, Nat.reduceAdd, Sl.v] at h
          exact t_next (next _ (h.weak (by repeat (first | exact Weak.refl _ | apply Weak.c0 | apply Weak.c1 | apply Weak.c2 | apply Weak.c3 | apply Weak.c4 | apply Weak.c5 | apply Weak.c6 | apply Weak.c7 | apply Weak.c8 | apply Weak.c9 | apply Weak.c10 | apply Weak.c11 | apply Weak.drop)))))
      · have hke : k = ps.length := by omega
        subst hke
        clear hJ3
        rw [List.drop_length] at hring
        simp only [M.ringGo] at hring
        rw [hring]
        clear hring
        have hps := postAll_s (l := l) (ps := ps) hq (by omega)
        have hset := post_sizes (l := l) (q := q) (ps := ps) q.l.size.toNat
        have hk1 : M.kOf (M.postQ l q ps) (since + ps.length) = ⟨q.l, (M.spotNext q.next ps.length q.l.size).1, q.back, q.told, since + ps.length, (M.sizesOf q.held q.l.size.toNat).set (M.leastId q.held) ps.length⟩ := by
          rw [hset, ← hps]; rfl
        rw [hk1]
        clear hk1 hset hps
        repeat (first
          | refine t_tickS h fun w h => ?_
          | refine t_keepN ?_
          | refine t_ldB h 0 rfl rfl ?_
          | refine t_ldB h 1 rfl rfl ?_
          | refine t_ldB h 2 rfl rfl ?_
          | refine t_ldB h 3 rfl rfl ?_
          | refine t_ldB h 4 rfl rfl ?_
          | refine t_ldB h 5 rfl rfl ?_
          | refine t_ldB h 6 rfl rfl ?_
          | refine t_ldB h 7 rfl rfl ?_
          | refine t_ldB h 8 rfl rfl ?_
          | refine t_ldB h 9 rfl rfl ?_
          | refine t_ldO h 0 rfl rfl rfl ?_
          | refine t_ldO h 1 rfl rfl rfl ?_
          | refine t_ldO h 2 rfl rfl rfl ?_
          | refine t_ldO h 3 rfl rfl rfl ?_
          | refine t_ldO h 4 rfl rfl rfl ?_
          | refine t_ldO h 5 rfl rfl rfl ?_
          | refine t_ldO h 6 rfl rfl rfl ?_
          | refine t_ldO h 7 rfl rfl rfl ?_
          | refine t_ldO h 8 rfl rfl rfl ?_
          | refine t_ldO h 9 rfl rfl rfl ?_
          | refine t_keepB h 0 rfl rfl ?_
          | refine t_keepB h 1 rfl rfl ?_
          | refine t_keepB h 2 rfl rfl ?_
          | refine t_keepB h 3 rfl rfl ?_
          | refine t_keepB h 4 rfl rfl ?_
          | refine t_keepB h 5 rfl rfl ?_
          | refine t_keepB h 6 rfl rfl ?_
          | refine t_keepB h 7 rfl rfl ?_
          | refine t_keepB h 8 rfl rfl ?_
          | refine t_keepB h 9 rfl rfl ?_
          | (refine t_stB h 0 rfl (by simp [setL]) (by simp [Value.oneCell']) fun w h => ?_; try dsimp only [List.set, setL, List.eraseIdx, List.cons_append, List.nil_append, List.append_nil, Nat.zero_add, Nat.reduceAdd, Sl.v] at h)
          | (refine t_stB h 1 rfl (by simp [setL]) (by simp [Value.oneCell']) fun w h => ?_; try dsimp only [List.set, setL, List.eraseIdx, List.cons_append, List.nil_append, List.append_nil, Nat.zero_add, Nat.reduceAdd, Sl.v] at h)
          | (refine t_stB h 2 rfl (by simp [setL]) (by simp [Value.oneCell']) fun w h => ?_; try dsimp only [List.set, setL, List.eraseIdx, List.cons_append, List.nil_append, List.append_nil, Nat.zero_add, Nat.reduceAdd, Sl.v] at h)
          | (refine t_stB h 3 rfl (by simp [setL]) (by simp [Value.oneCell']) fun w h => ?_; try dsimp only [List.set, setL, List.eraseIdx, List.cons_append, List.nil_append, List.append_nil, Nat.zero_add, Nat.reduceAdd, Sl.v] at h)
          | (refine t_stB h 4 rfl (by simp [setL]) (by simp [Value.oneCell']) fun w h => ?_; try dsimp only [List.set, setL, List.eraseIdx, List.cons_append, List.nil_append, List.append_nil, Nat.zero_add, Nat.reduceAdd, Sl.v] at h)
          | (refine t_stB h 5 rfl (by simp [setL]) (by simp [Value.oneCell']) fun w h => ?_; try dsimp only [List.set, setL, List.eraseIdx, List.cons_append, List.nil_append, List.append_nil, Nat.zero_add, Nat.reduceAdd, Sl.v] at h)
          | (refine t_stB h 6 rfl (by simp [setL]) (by simp [Value.oneCell']) fun w h => ?_; try dsimp only [List.set, setL, List.eraseIdx, List.cons_append, List.nil_append, List.append_nil, Nat.zero_add, Nat.reduceAdd, Sl.v] at h)
          | (refine t_stB h 7 rfl (by simp [setL]) (by simp [Value.oneCell']) fun w h => ?_; try dsimp only [List.set, setL, List.eraseIdx, List.cons_append, List.nil_append, List.append_nil, Nat.zero_add, Nat.reduceAdd, Sl.v] at h)
          | (refine t_stB h 8 rfl (by simp [setL]) (by simp [Value.oneCell']) fun w h => ?_; try dsimp only [List.set, setL, List.eraseIdx, List.cons_append, List.nil_append, List.append_nil, Nat.zero_add, Nat.reduceAdd, Sl.v] at h)
          | (refine t_stB h 9 rfl (by simp [setL]) (by simp [Value.oneCell']) fun w h => ?_; try dsimp only [List.set, setL, List.eraseIdx, List.cons_append, List.nil_append, List.append_nil, Nat.zero_add, Nat.reduceAdd, Sl.v] at h)
          | refine t_newB h (by simp [Value.oneCell']) fun w b h hb => ?_
          | refine t_nil ?_
          | refine t_true rfl ?_
          | refine t_false rfl ?_
          | refine t_yes rfl ?_
          | refine t_nyes rfl ?_
          | refine t_no (by decide) ?_
          | refine t_nno (by decide) ?_
          | refine t_need (by decide) ?_)
        try dsimp only [List.set, setL, List.eraseIdx, List.cons_append, List.nil_append, List.append_nil, Nat.zero_add, Nat.reduceAdd, Sl.v] at h
        refine t_both ?_ (t_newB h (by simp [Value.oneCell']) fun w nb h hnb => t_keepB h 1 rfl rfl (t_keepB h 1 rfl rfl (t_keepN ?_)))
        all_goals (
          rw [← hxn]
          first | refine t_fn (R13_Next_con q.next (ps.length : Int) q.l.size) h (by repeat (first | exact Sub.nil _ | apply Sub.c0 | apply Sub.c1 | apply Sub.c2 | apply Sub.c3 | apply Sub.c4 | apply Sub.c5 | apply Sub.c6 | apply Sub.c7 | apply Sub.c8 | apply Sub.c9 | apply Sub.c10 | apply Sub.c11 | exact Sub.refl _)) noRo fun w h => ?_ | refine t_fnn (R13_Next_con q.next (ps.length : Int) q.l.size) h (by repeat (first | exact Sub.nil _ | apply Sub.c0 | apply Sub.c1 | apply Sub.c2 | apply Sub.c3 | apply Sub.c4 | apply Sub.c5 | apply Sub.c6 | apply Sub.c7 | apply Sub.c8 | apply Sub.c9 | apply Sub.c10 | apply Sub.c11 | exact Sub.refl _)) noRo fun w h => ?_
          try dsimp only [List.set, setL, List.eraseIdx, List.cons_append, List.nil_append, List.append_nil, Nat.zero_add, Nat.reduceAdd, Sl.v] at h
          dsimp only [M.kOf] at h ⊢
          generalize (M.spotNext q.next ps.length q.l.size).1 = sp at *
          repeat (first
            | refine t_tickS h fun w h => ?_
            | refine t_keepN ?_
            | refine t_ldB h 0 rfl rfl ?_
            | refine t_ldB h 1 rfl rfl ?_
            | refine t_ldB h 2 rfl rfl ?_
            | refine t_ldB h 3 rfl rfl ?_
            | refine t_ldB h 4 rfl rfl ?_
            | refine t_ldB h 5 rfl rfl ?_
            | refine t_ldB h 6 rfl rfl ?_
            | refine t_ldB h 7 rfl rfl ?_
            | refine t_ldB h 8 rfl rfl ?_
            | refine t_ldB h 9 rfl rfl ?_
            | refine t_ldO h 0 rfl rfl rfl ?_
            | refine t_ldO h 1 rfl rfl rfl ?_
            | refine t_ldO h 2 rfl rfl rfl ?_
            | refine t_ldO h 3 rfl rfl rfl ?_
            | refine t_ldO h 4 rfl rfl rfl ?_
            | refine t_ldO h 5 rfl rfl rfl ?_
            | refine t_ldO h 6 rfl rfl rfl ?_
            | refine t_ldO h 7 rfl rfl rfl ?_
            | refine t_ldO h 8 rfl rfl rfl ?_
            | refine t_ldO h 9 rfl rfl rfl ?_
            | refine t_keepB h 0 rfl rfl ?_
            | refine t_keepB h 1 rfl rfl ?_
            | refine t_keepB h 2 rfl rfl ?_
            | refine t_keepB h 3 rfl rfl ?_
            | refine t_keepB h 4 rfl rfl ?_
            | refine t_keepB h 5 rfl rfl ?_
            | refine t_keepB h 6 rfl rfl ?_
            | refine t_keepB h 7 rfl rfl ?_
            | refine t_keepB h 8 rfl rfl ?_
            | refine t_keepB h 9 rfl rfl ?_
            | (refine t_stB h 0 rfl (by simp [setL]) (by simp [Value.oneCell']) fun w h => ?_; try dsimp only [List.set, setL, List.eraseIdx, List.cons_append, List.nil_append, List.append_nil, Nat.zero_add, Nat.reduceAdd, Sl.v] at h)
            | (refine t_stB h 1 rfl (by simp [setL]) (by simp [Value.oneCell']) fun w h => ?_; try dsimp only [List.set, setL, List.eraseIdx, List.cons_append, List.nil_append, List.append_nil, Nat.zero_add, Nat.reduceAdd, Sl.v] at h)
            | (refine t_stB h 2 rfl (by simp [setL]) (by simp [Value.oneCell']) fun w h => ?_; try dsimp only [List.set, setL, List.eraseIdx, List.cons_append, List.nil_append, List.append_nil, Nat.zero_add, Nat.reduceAdd, Sl.v] at h)
            | (refine t_stB h 3 rfl (by simp [setL]) (by simp [Value.oneCell']) fun w h => ?_; try dsimp only [List.set, setL, List.eraseIdx, List.cons_append, List.nil_append, List.append_nil, Nat.zero_add, Nat.reduceAdd, Sl.v] at h)
            | (refine t_stB h 4 rfl (by simp [setL]) (by simp [Value.oneCell']) fun w h => ?_; try dsimp only [List.set, setL, List.eraseIdx, List.cons_append, List.nil_append, List.append_nil, Nat.zero_add, Nat.reduceAdd, Sl.v] at h)
            | (refine t_stB h 5 rfl (by simp [setL]) (by simp [Value.oneCell']) fun w h => ?_; try dsimp only [List.set, setL, List.eraseIdx, List.cons_append, List.nil_append, List.append_nil, Nat.zero_add, Nat.reduceAdd, Sl.v] at h)
            | (refine t_stB h 6 rfl (by simp [setL]) (by simp [Value.oneCell']) fun w h => ?_; try dsimp only [List.set, setL, List.eraseIdx, List.cons_append, List.nil_append, List.append_nil, Nat.zero_add, Nat.reduceAdd, Sl.v] at h)
            | (refine t_stB h 7 rfl (by simp [setL]) (by simp [Value.oneCell']) fun w h => ?_; try dsimp only [List.set, setL, List.eraseIdx, List.cons_append, List.nil_append, List.append_nil, Nat.zero_add, Nat.reduceAdd, Sl.v] at h)
            | (refine t_stB h 8 rfl (by simp [setL]) (by simp [Value.oneCell']) fun w h => ?_; try dsimp only [List.set, setL, List.eraseIdx, List.cons_append, List.nil_append, List.append_nil, Nat.zero_add, Nat.reduceAdd, Sl.v] at h)
            | (refine t_stB h 9 rfl (by simp [setL]) (by simp [Value.oneCell']) fun w h => ?_; try dsimp only [List.set, setL, List.eraseIdx, List.cons_append, List.nil_append, List.append_nil, Nat.zero_add, Nat.reduceAdd, Sl.v] at h)
            | refine t_newB h (by simp [Value.oneCell']) fun w b h hb => ?_
            | refine t_nil ?_
            | refine t_true rfl ?_
            | refine t_false rfl ?_
            | refine t_yes rfl ?_
            | refine t_nyes rfl ?_
            | refine t_no (by decide) ?_
            | refine t_nno (by decide) ?_
            | refine t_need (by decide) ?_)
          try dsimp only [List.set, setL, List.eraseIdx, List.cons_append, List.nil_append, List.append_nil, Nat.zero_add, Nat.reduceAdd, Sl.v] at h
          replace h := St.blkOwn 0 1 h rfl
          refine t_append (s := ⟨some ⟨_, 0, none⟩, 0, 0⟩) h 0 rfl slI_ints rfl undInts (Src_own h 3 rfl _ (Keep.refl _ _)) (intsV_one _) (by dsimp only; omega) (by omega) fun l2 w hn2 h => ?_
          try dsimp only [List.set, setL, List.eraseIdx, List.cons_append, List.nil_append, List.append_nil, Nat.zero_add, Nat.reduceAdd, Sl.v] at h
          repeat (first
            | refine t_tickS h fun w h => ?_
            | refine t_keepN ?_
            | refine t_ldB h 0 rfl rfl ?_
            | refine t_ldB h 1 rfl rfl ?_
            | refine t_ldB h 2 rfl rfl ?_
            | refine t_ldB h 3 rfl rfl ?_
            | refine t_ldB h 4 rfl rfl ?_
            | refine t_ldB h 5 rfl rfl ?_
            | refine t_ldB h 6 rfl rfl ?_
            | refine t_ldB h 7 rfl rfl ?_
            | refine t_ldB h 8 rfl rfl ?_
            | refine t_ldB h 9 rfl rfl ?_
            | refine t_ldO h 0 rfl rfl rfl ?_
            | refine t_ldO h 1 rfl rfl rfl ?_
            | refine t_ldO h 2 rfl rfl rfl ?_
            | refine t_ldO h 3 rfl rfl rfl ?_
            | refine t_ldO h 4 rfl rfl rfl ?_
            | refine t_ldO h 5 rfl rfl rfl ?_
            | refine t_ldO h 6 rfl rfl rfl ?_
            | refine t_ldO h 7 rfl rfl rfl ?_
            | refine t_ldO h 8 rfl rfl rfl ?_
            | refine t_ldO h 9 rfl rfl rfl ?_
            | refine t_keepB h 0 rfl rfl ?_
            | refine t_keepB h 1 rfl rfl ?_
            | refine t_keepB h 2 rfl rfl ?_
            | refine t_keepB h 3 rfl rfl ?_
            | refine t_keepB h 4 rfl rfl ?_
            | refine t_keepB h 5 rfl rfl ?_
            | refine t_keepB h 6 rfl rfl ?_
            | refine t_keepB h 7 rfl rfl ?_
            | refine t_keepB h 8 rfl rfl ?_
            | refine t_keepB h 9 rfl rfl ?_
            | (refine t_stB h 0 rfl (by simp [setL]) (by simp [Value.oneCell']) fun w h => ?_; try dsimp only [List.set, setL, List.eraseIdx, List.cons_append, List.nil_append, List.append_nil, Nat.zero_add, Nat.reduceAdd, Sl.v] at h)
            | (refine t_stB h 1 rfl (by simp [setL]) (by simp [Value.oneCell']) fun w h => ?_; try dsimp only [List.set, setL, List.eraseIdx, List.cons_append, List.nil_append, List.append_nil, Nat.zero_add, Nat.reduceAdd, Sl.v] at h)
            | (refine t_stB h 2 rfl (by simp [setL]) (by simp [Value.oneCell']) fun w h => ?_; try dsimp only [List.set, setL, List.eraseIdx, List.cons_append, List.nil_append, List.append_nil, Nat.zero_add, Nat.reduceAdd, Sl.v] at h)
            | (refine t_stB h 3 rfl (by simp [setL]) (by simp [Value.oneCell']) fun w h => ?_; try dsimp only [List.set, setL, List.eraseIdx, List.cons_append, List.nil_append, List.append_nil, Nat.zero_add, Nat.reduceAdd, Sl.v] at h)
            | (refine t_stB h 4 rfl (by simp [setL]) (by simp [Value.oneCell']) fun w h => ?_; try dsimp only [List.set, setL, List.eraseIdx, List.cons_append, List.nil_append, List.append_nil, Nat.zero_add, Nat.reduceAdd, Sl.v] at h)
            | (refine t_stB h 5 rfl (by simp [setL]) (by simp [Value.oneCell']) fun w h => ?_; try dsimp only [List.set, setL, List.eraseIdx, List.cons_append, List.nil_append, List.append_nil, Nat.zero_add, Nat.reduceAdd, Sl.v] at h)
            | (refine t_stB h 6 rfl (by simp [setL]) (by simp [Value.oneCell']) fun w h => ?_; try dsimp only [List.set, setL, List.eraseIdx, List.cons_append, List.nil_append, List.append_nil, Nat.zero_add, Nat.reduceAdd, Sl.v] at h)
            | (refine t_stB h 7 rfl (by simp [setL]) (by simp [Value.oneCell']) fun w h => ?_; try dsimp only [List.set, setL, List.eraseIdx, List.cons_append, List.nil_append, List.append_nil, Nat.zero_add, Nat.reduceAdd, Sl.v] at h)
            | (refine t_stB h 8 rfl (by simp [setL]) (by simp [Value.oneCell']) fun w h => ?_; try dsimp only [List.set, setL, List.eraseIdx, List.cons_append, List.nil_append, List.append_nil, Nat.zero_add, Nat.reduceAdd, Sl.v] at h)
            | (refine t_stB h 9 rfl (by simp [setL]) (by simp [Value.oneCell']) fun w h => ?_; try dsimp only [List.set, setL, List.eraseIdx, List.cons_append, List.nil_append, List.append_nil, Nat.zero_add, Nat.reduceAdd, Sl.v] at h)
            | refine t_newB h (by simp [Value.oneCell']) fun w b h hb => ?_
            | refine t_nil ?_
            | refine t_true rfl ?_
            | refine t_false rfl ?_
            | refine t_yes rfl ?_
            | refine t_nyes rfl ?_
            | refine t_no (by decide) ?_
            | refine t_nno (by decide) ?_
            | refine t_need (by decide) ?_)
          try dsimp only [List.set, setL, List.eraseIdx, List.cons_append, List.nil_append, List.append_nil, Nat.zero_add, Nat.reduceAdd, Sl.v] at h
          dsimp only at hn2
          refine t_need (by omega) (t_nilO (s := l2) h 0 rfl (by omega) fun a3 ha3 => ?_)
          refine t_stO (s := l2) h 0 rfl ha3 (by rw [intsV_length, sizesOf_length]; simp; omega) (by simp [Value.oneCell']) fun w h => ?_
          rw [Nat.mul_one, intsV_set] at h
          try dsimp only [List.set, setL, List.eraseIdx, List.cons_append, List.nil_append, List.append_nil, Nat.zero_add, Nat.reduceAdd, Sl.v] at h
          repeat (first
            | refine t_tickS h fun w h => ?_
            | refine t_keepN ?_
            | refine t_ldB h 0 rfl rfl ?_
            | refine t_ldB h 1 rfl rfl ?_
            | refine t_ldB h 2 rfl rfl ?_
            | refine t_ldB h 3 rfl rfl ?_
            | refine t_ldB h 4 rfl rfl ?_
            | refine t_ldB h 5 rfl rfl ?_
            | refine t_ldB h 6 rfl rfl ?_
            | refine t_ldB h 7 rfl rfl ?_
            | refine t_ldB h 8 rfl rfl ?_
            | refine t_ldB h 9 rfl rfl ?_
            | refine t_ldO h 0 rfl rfl rfl ?_
            | refine t_ldO h 1 rfl rfl rfl ?_
            | refine t_ldO h 2 rfl rfl rfl ?_
            | refine t_ldO h 3 rfl rfl rfl ?_
            | refine t_ldO h 4 rfl rfl rfl ?_
            | refine t_ldO h 5 rfl rfl rfl ?_
            | refine t_ldO h 6 rfl rfl rfl ?_
            | refine t_ldO h 7 rfl rfl rfl ?_
            | refine t_ldO h 8 rfl rfl rfl ?_
            | refine t_ldO h 9 rfl rfl rfl ?_
            | refine t_keepB h 0 rfl rfl ?_
            | refine t_keepB h 1 rfl rfl ?_
            | refine t_keepB h 2 rfl rfl ?_
            | refine t_keepB h 3 rfl rfl ?_
            | refine t_keepB h 4 rfl rfl ?_
            | refine t_keepB h 5 rfl rfl ?_
            | refine t_keepB h 6 rfl rfl ?_
            | refine t_keepB h 7 rfl rfl ?_
            | refine t_keepB h 8 rfl rfl ?_
            | refine t_keepB h 9 rfl rfl ?_
            | (refine t_stB h 0 rfl (by simp [setL]) (by simp [Value.oneCell']) fun w h => ?_; try dsimp only [List.set, setL, List.eraseIdx, List.cons_append, List.nil_append, List.append_nil, Nat.zero_add, Nat.reduceAdd, Sl.v] at h)
            | (refine t_stB h 1 rfl (by simp [setL]) (by simp [Value.oneCell']) fun w h => ?_; try dsimp only [List.set, setL, List.eraseIdx, List.cons_append, List.nil_append, List.append_nil, Nat.zero_add, Nat.reduceAdd, Sl.v] at h)
            | (refine t_stB h 2 rfl (by simp [setL]) (by simp [Value.oneCell']) fun w h => ?_; try dsimp only [List.set, setL, List.eraseIdx, List.cons_append, List.nil_append, List.append_nil, Nat.zero_add, Nat.reduceAdd, Sl.v] at h)
            | (refine t_stB h 3 rfl (by simp [setL]) (by simp [Value.oneCell']) fun w h => ?_; try dsimp only [List.set, setL, List.eraseIdx, List.cons_append, List.nil_append, List.append_nil, Nat.zero_add, Nat.reduceAdd, Sl.v] at h)
            | (refine t_stB h 4 rfl (by simp [setL]) (by simp [Value.oneCell']) fun w h => ?_; try dsimp only [List.set, setL, List.eraseIdx, List.cons_append, List.nil_append, List.append_nil, Nat.zero_add, Nat.reduceAdd, Sl.v] at h)
            | (refine t_stB h 5 rfl (by simp [setL]) (by simp [Value.oneCell']) fun w h => ?_; try dsimp only [List.set, setL, List.eraseIdx, List.cons_append, List.nil_append, List.append_nil, Nat.zero_add, Nat.reduceAdd, Sl.v] at h)
            | (refine t_stB h 6 rfl (by simp [setL]) (by simp [Value.oneCell']) fun w h => ?_; try dsimp only [List.set, setL, List.eraseIdx, List.cons_append, List.nil_append, List.append_nil, Nat.zero_add, Nat.reduceAdd, Sl.v] at h)
            | (refine t_stB h 7 rfl (by simp [setL]) (by simp [Value.oneCell']) fun w h => ?_; try dsimp only [List.set, setL, List.eraseIdx, List.cons_append, List.nil_append, List.append_nil, Nat.zero_add, Nat.reduceAdd, Sl.v] at h)
            | (refine t_stB h 8 rfl (by simp [setL]) (by simp [Value.oneCell']) fun w h => ?_; try dsimp only [List.set, setL, List.eraseIdx, List.cons_append, List.nil_append, List.append_nil, Nat.zero_add, Nat.reduceAdd, Sl.v] at h)
            | (refine t_stB h 9 rfl (by simp [setL]) (by simp [Value.oneCell']) fun w h => ?_; try dsimp only [List.set, setL, List.eraseIdx, List.cons_append, List.nil_append, List.append_nil, Nat.zero_add, Nat.reduceAdd, Sl.v] at h)
            | refine t_newB h (by simp [Value.oneCell']) fun w b h hb => ?_
            | refine t_nil ?_
            | refine t_true rfl ?_
            | refine t_false rfl ?_
            | refine t_yes rfl ?_
            | refine t_nyes rfl ?_
            | refine t_no (by decide) ?_
            | refine t_nno (by decide) ?_
            | refine t_need (by decide) ?_)
          try dsimp only [List.set, setL, List.eraseIdx, List.cons_append, List.nil_append, List.append_nil, Nat.zero_add, Nat.reduceAdd, Sl.v] at h
          rw [w64 (n := since + (ps.length : Int)) (by omega)] at h
          exact t_ret ⟨rfl, (kq_shut ⟨q.l, sp, q.back, q.told, since + ps.length, (M.sizesOf q.held q.l.size.toNat).set (M.leastId q.held) ps.length⟩ h (by repeat (first | exact Sub.nil _ | apply Sub.c0 | apply Sub.c1 | apply Sub.c2 | apply Sub.c3 | apply Sub.c4 | apply Sub.c5 | apply Sub.c6 | apply Sub.c7 | apply Sub.c8 | apply Sub.c9 | apply Sub.c10 | apply Sub.c11 | exact Sub.refl _))).weak (by repeat (first | exact Weak.refl _ | apply Weak.c0 | apply Weak.c1 | apply Weak.c2 | apply Weak.c3 | apply Weak.c4 | apply Weak.c5 | apply Weak.c6 | apply Weak.c7 | apply Weak.c8 | apply Weak.c9 | apply Weak.c10 | apply Weak.c11 | apply Weak.drop))⟩)
end Go.Proofs.YthfcneahnldgnaaGreat
