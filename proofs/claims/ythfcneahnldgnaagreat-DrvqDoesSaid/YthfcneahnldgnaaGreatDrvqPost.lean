/- drvq: Post. -/
import Derived.Test.YthfcneahnldgnaaGreatDrvq
namespace Go.Proofs.YthfcneahnldgnaaGreat
open Go Vk
set_option linter.unusedSimpArgs false
set_option linter.unusedVariables false
namespace M
def Spot.In (s : Spot) (size : Int) : Prop := 0 ≤ s.at_ ∧ s.at_ < size
structure PSt where
  mem : List UInt8
  s : Spot
  first : Int
def postFlags (cnt i : Nat) (p : Part) (wrap : Bool) : Int := mark ((if i + 1 < cnt then 1 else 0) + (if p.write then 2 else 0)) wrap false
def postStep (ring size id : Int) (cnt i : Nat) (p : Part) (st : PSt) : PSt :=
  let fl := postFlags cnt i p st.s.wrap
  let pl := ring + 16 * st.s.at_
  let l3 := (storeM (storeM (storeM st.mem pl 8 p.at_) (pl + 8) 4 p.n) (pl + 12) 2 id)
  let s' := (spotNext st.s 1 size).1
  if i = 0 then ⟨l3, s', fl⟩ else ⟨(storeM l3 (pl + 14) 2 fl), s', st.first⟩
def postGo (ring size id : Int) (cnt : Nat) : Nat → List Part → PSt → PSt
  | _, [], st => st
  | i, p :: r, st => postGo ring size id cnt (i + 1) r (postStep ring size id cnt i p st)
def postAll (l : List UInt8) (q : DQ) (ps : List Part) : PSt := postGo q.l.ring q.l.size (leastId q.held) ps.length 0 ps ⟨l, q.next, 0⟩
/-- Post, where it is not refused: memory, the queue. -/
def postMem (l : List UInt8) (q : DQ) (ps : List Part) : List UInt8 := (storeM (postAll l q ps).mem (q.l.ring + 16 * q.next.at_ + 14) 2 (postAll l q ps).first)
def postQ (l : List UInt8) (q : DQ) (ps : List Part) : DQ :=
  { q with next := (postAll l q ps).s, since := min (q.since + ps.length) (2 * q.l.size), free := q.free - ps.length, held := q.held ++ [(((leastId q.held : Nat) : Int), (ps.length : Int))] }
structure DQ.Ok (q : DQ) : Prop where
  size : 1 ≤ q.l.size ∧ q.l.size ≤ 32768
  ring : 0 ≤ q.l.ring ∧ q.l.ring ≤ 1048576
  drv : 0 ≤ q.l.drv ∧ q.l.drv ≤ 1048576
  dev : 0 ≤ q.l.dev ∧ q.l.dev ≤ 1048576
  next : q.next.In q.l.size
  back : q.back.In q.l.size
  told : q.told.In q.l.size
  since : 0 ≤ q.since ∧ q.since ≤ 2 * q.l.size
  free : 0 ≤ q.free ∧ q.free ≤ q.l.size
  len : q.held.length ≤ 32768
  pos : ∀ p ∈ q.held, 1 ≤ p.2 ∧ p.2 ≤ 64
end M
theorem postStep_zero {ring size id : Int} {cnt i : Nat} {p : M.Part} {st : M.PSt} (h : i = 0) : M.postStep ring size id cnt i p st = ⟨(M.storeM (M.storeM (M.storeM st.mem (ring + 16 * st.s.at_) 8 p.at_) (ring + 16 * st.s.at_ + 8) 4 p.n) (ring + 16 * st.s.at_ + 12) 2 id), (M.spotNext st.s 1 size).1, M.postFlags cnt i p st.s.wrap⟩ := if_pos h
theorem postStep_pos {ring size id : Int} {cnt i : Nat} {p : M.Part} {st : M.PSt} (h : i ≠ 0) : M.postStep ring size id cnt i p st = ⟨(M.storeM (M.storeM (M.storeM (M.storeM st.mem (ring + 16 * st.s.at_) 8 p.at_) (ring + 16 * st.s.at_ + 8) 4 p.n) (ring + 16 * st.s.at_ + 12) 2 id) (ring + 16 * st.s.at_ + 14) 2 (M.postFlags cnt i p st.s.wrap)), (M.spotNext st.s 1 size).1, st.first⟩ := if_neg h
theorem bor_two (c : Prop) [Decidable c] : bor .i64 (if c then 1 else 0) 2 = (if c then 1 else 0) + 2 := by
  by_cases h : c
  · rw [if_pos h]; rfl
  · rw [if_neg h]; rfl
theorem mark_lt (f : Int) (wrap used : Bool) (h : 0 ≤ f ∧ f < 4) : 0 ≤ M.mark f wrap used ∧ M.mark f wrap used < 65536 := by
  unfold M.mark; cases wrap <;> cases used <;> simp <;> omega
theorem postFlags_lt (cnt i : Nat) (p : M.Part) (wrap : Bool) : 0 ≤ M.postFlags cnt i p wrap ∧ M.postFlags cnt i p wrap < 65536 := by
  refine mark_lt _ _ _ ?_
  split <;> split <;> omega
theorem spotNext_in {s : M.Spot} {n size : Int} (hs : s.In size) (h1 : 1 ≤ size ∧ size ≤ 32768) (hn : 0 ≤ n ∧ n ≤ size) : (M.spotNext s n size).1.In size ∧ (M.spotNext s n size).2 = 0 := by
  obtain ⟨h2, h3⟩ := hs
  have hc : M.spotCheck s size = 0 := by unfold M.spotCheck; rw [if_neg (by omega), if_neg (by omega)]
  unfold M.spotNext
  rw [if_neg (by simp [hc]), if_neg (by omega)]
  split
  · exact ⟨⟨by dsimp only; omega, by dsimp only; omega⟩, rfl⟩
  · exact ⟨⟨by dsimp only; omega, by dsimp only; omega⟩, rfl⟩
theorem partsOk_all {N : Nat} : ∀ {prev : Bool} {ps : List M.Part}, M.partsOk N prev ps = true → ∀ p ∈ ps, 1 ≤ p.n ∧ 0 ≤ p.at_ ∧ p.at_ + p.n ≤ N
  | _, [], _, p, hp => by simp at hp
  | prev, x :: r, h, p, hp => by
    simp only [M.partsOk, Bool.and_eq_true, decide_eq_true_eq, M.mayAt] at h
    rcases List.mem_cons.1 hp with rfl | hp
    · omega
    · exact partsOk_all h.2 p hp
section
variable {w0 w : World} {W : List Nat} {B : List Res}
theorem Post_loop {b mb r a : Nat} {l : List UInt8} {q : M.DQ} {x1 : Sl} {ps : List M.Part} (hq : q.Ok) (hl : l.length ≤ 1048576) (hps : ∀ p ∈ ps, 1 ≤ p.n ∧ 0 ≤ p.at_ ∧ p.at_ + p.n ≤ l.length) (hcnt : 1 ≤ ps.length ∧ ps.length ≤ 64) (hfree : ps.length ≤ q.free)
    (hro : ∀ w', Keep W w0 w' → Rd w' x1 3 (partsV ps))
    (h : St w0 W w (memR mb l :: blkR a [.int .i64 q.next.at_, .bool q.next.wrap] 44 :: blkR b [.pointer (some ⟨mb, 0, none⟩), .int .i64 q.l.ring, .int .i64 q.l.size, .int .i64 q.l.drv, .int .i64 q.l.dev, .int .i64 q.next.at_, .bool q.next.wrap, .int .i64 q.back.at_, .bool q.back.wrap, .int .i64 q.told.at_, .bool q.told.wrap, .int .i64 q.since, .int .i64 q.free, .map (some r)] 78 :: mapR r q.held :: B)) (Ks : Conts) :
    (drvq_Queue_Post.L0 x1 ⟨a, 0, none⟩ ⟨b, 0, none⟩ (M.leastId q.held : Nat)).wp Tryz.prog (fun e w' => e = .returned (.tuple #[.int .i64 (M.leastId q.held : Nat), .int .i64 0]) ∧ St w0 W w' (dqR b mb (M.postQ l q ps) :: memR mb (M.postMem l q ps) :: B)) Ks w := by
  obtain ⟨hsz, hring, hdrv, hdev, hnext, hback, htold, hsince, hfr, hlen, hpos⟩ := hq
  have hid : (M.leastId q.held : Nat) ≤ 32768 := by have := pigeon (leastId_le q.held).1; omega
  have hnx : 0 ≤ q.next.at_ ∧ q.next.at_ < q.l.size := hnext
  unfold drvq_Queue_Post.L0
  have hxn : ps.length = x1.n := by have := (hro w h.kept).len; rw [partsV_length] at this; omega
  refine t_loop (fun m st w' => ∃ (k : Nat) (ps' : M.PSt), k ≤ ps.length ∧ m = ps.length - k ∧ st = (ps'.first, (k : Int), ()) ∧ M.postAll l q ps = M.postGo q.l.ring q.l.size (M.leastId q.held) ps.length k (ps.drop k) ps' ∧ ps'.s.In q.l.size ∧ (0 ≤ ps'.first ∧ ps'.first < 65536) ∧
    St w0 W w' (memR mb ps'.mem :: blkR a [.int .i64 ps'.s.at_, .bool ps'.s.wrap] 44 :: blkR b [.pointer (some ⟨mb, 0, none⟩), .int .i64 q.l.ring, .int .i64 q.l.size, .int .i64 q.l.drv, .int .i64 q.l.dev, .int .i64 q.next.at_, .bool q.next.wrap, .int .i64 q.back.at_, .bool q.back.wrap, .int .i64 q.told.at_, .bool q.told.wrap, .int .i64 q.since, .int .i64 q.free, .map (some r)] 78 :: mapR r q.held :: B)) ps.length
    ⟨0, ⟨l, q.next, 0⟩, by omega, rfl, rfl, rfl, hnext, by dsimp only; omega, h⟩ ?_
  rintro m st w ⟨k, ⟨lk, s, f⟩, hk, rfl, rfl, hinv, hin, hf, h⟩ Ks hJ _
  dsimp only at *
  obtain ⟨hs1, hs2⟩ := hin
  refine t_if (fun hc => ?_) (fun hc => ?_)
  · have hlt : k < ps.length := by omega
    have hd : ps.drop k = ps[k] :: ps.drop (k + 1) := by rw [List.drop_eq_getElem_cons hlt]
    rw [hd] at hinv
    simp only [M.postGo] at hinv
    have hp := hps ps[k] (List.getElem_mem hlt)
    refine t_need (by omega) (t_nilRd (hro w h.kept) (by omega) fun a' ha => ?_)
    rw [Int.toNat_natCast]
    have ht : (partsV ps).drop (k * 3) = Part.cells ps[k] ++ partsV (ps.drop (k + 1)) := by
      rw [partsV_drop, hd]; rfl
    generalize ps[k] = p at *
    refine t_ldRd (k := .agg [.I, .I, .bool]) (x := (p.at_, p.n, p.write, ())) (hro w h.kept) ha (by rw [ht]; rfl) ?_
    refine t_newB h (by simp [Value.oneCell']) fun w b' h hb' => ?_
    refine t_stB h 0 rfl (by simp) (by simp [Value.oneCell']) fun w h => ?_
    dsimp only [List.set, setL, Nat.zero_add] at h
    replace h := h.swap
    refine t_bindQ (fun x w' => x = ((if k + 1 < ps.length then 1 else 0 : Int), ()) ∧ w' = w) ?_ ?_
    · rw [w64 (n := (x1.n : Int) - 1) (by omega)]
      refine t_if (fun c1 => t_jmp ⟨((1 : Int), ()), rfl, by rw [if_pos (by omega)], rfl⟩) (fun c1 => t_jmp ⟨((0 : Int), ()), rfl, by rw [if_neg (by omega)], rfl⟩)
    rintro _ w' ⟨rfl, hw'⟩
    rw [hw']
    dsimp only
    refine t_bindQ (fun x w' => x = ((if k + 1 < ps.length then 1 else 0 : Int) + (if p.write then 2 else 0), ()) ∧ w' = w) ?_ ?_
    · refine t_ldB h 1 rfl rfl ?_
      refine t_cond (fun c1 => t_jmp ?_) (fun c1 => t_jmp ?_)
      · exact ⟨(bor .i64 (if k + 1 < ps.length then 1 else 0) 2, ()), rfl, by rw [c1, bor_two, if_pos rfl], rfl⟩
      · exact ⟨((if k + 1 < ps.length then 1 else 0 : Int), ()), rfl, by rw [c1]; simp, rfl⟩
    rintro _ w' ⟨rfl, hw'⟩
    rw [hw']
    dsimp only
    refine t_ldB h 2 rfl rfl ?_
    refine t_callS (k := .I) (x := M.postFlags ps.length k p s.wrap) (desc_Mark_spec h _ s.wrap false (by split <;> split <;> omega)) fun w h => t_tickS h fun w h => ?_
    have hfl := postFlags_lt ps.length k p s.wrap
    refine t_ldB h 3 rfl rfl (t_ldB h 2 rfl rfl (t_tickS h fun w h => ?_))
    refine t_ldB h 3 rfl rfl (t_ldB h 1 rfl rfl ?_)
    rw [w64 (n := 16 * s.at_) (by omega), w64 (n := q.l.ring + 16 * s.at_) (by omega), u64 (n := p.at_) (by omega)]
    refine t_callnS (k := .I) (gmem_Store_spec h (q.l.ring + 16 * s.at_) 8 p.at_ (by omega) (by omega) (by omega)) fun w h => t_tickS h fun w h => ?_
    refine t_ldB h 3 rfl rfl (t_ldB h 1 rfl rfl ?_)
    rw [w64 (n := q.l.ring + 16 * s.at_ + 8) (by omega), u64 (n := p.n) (by omega)]
    refine t_callnS (k := .I) (gmem_Store_spec h (q.l.ring + 16 * s.at_ + 8) 4 p.n (by omega) (by omega) (by omega)) fun w h => ?_
    refine t_ldB h 3 rfl rfl ?_
    rw [w64 (n := q.l.ring + 16 * s.at_ + 12) (by omega), u64 (n := (M.leastId q.held : Nat)) (by omega)]
    refine t_callS (k := .I) (gmem_Store_spec h (q.l.ring + 16 * s.at_ + 12) 2 (M.leastId q.held : Nat) (by omega) (by omega) (by omega)) fun w h => ?_
    have hsn := spotNext_in (s := s) (n := 1) (size := q.l.size) ⟨hs1, hs2⟩ hsz (by omega)
    refine t_if (fun c2 => t_tickS h fun w h => ?_) (fun c2 => ?_)
    · refine t_ldB h 2 rfl rfl (t_ldB h 3 rfl rfl ?_)
      refine t_callnS (k := .tup [.agg [.I, .bool], .I]) (x := (((M.spotNext s 1 q.l.size).1.at_, (M.spotNext s 1 q.l.size).1.wrap, ()), (M.spotNext s 1 q.l.size).2, ())) (spot_Next_spec h s 1 q.l.size) fun w h => ?_
      refine t_stB h 2 rfl (by simp) (by simp [Value.oneCell']) fun w h => ?_
      dsimp only [List.set, setL, Nat.zero_add] at h
      replace h := h.dropAt 1 (by simp)
      dsimp only [List.eraseIdx] at h
      rw [w64 (n := (k : Int) + 1) (by omega)]
      have hk0 : k = 0 := by omega
      rw [postStep_zero hk0] at hinv
      dsimp only at hinv
      generalize (M.storeM (M.storeM (M.storeM lk (q.l.ring + 16 * s.at_) 8 p.at_) (q.l.ring + 16 * s.at_ + 8) 4 p.n) (q.l.ring + 16 * s.at_ + 12) 2 (M.leastId q.held : Nat)) = m3 at h hinv
      generalize M.postFlags ps.length k p s.wrap = fl at *
      refine t_next (hJ (ps.length - (k + 1)) (fl, ((k + 1 : Nat) : Int), ()) w (by omega) ⟨k + 1, ⟨m3, (M.spotNext s 1 q.l.size).1, fl⟩, by omega, rfl, rfl, hinv, hsn.1, hfl, h⟩)
    · refine t_ldB h 3 rfl rfl ?_
      rw [w64 (n := q.l.ring + 16 * s.at_ + 14) (by omega), u64 (n := M.postFlags ps.length k p s.wrap) (by omega)]
      refine t_callS (k := .I) (gmem_Store_spec h (q.l.ring + 16 * s.at_ + 14) 2 (M.postFlags ps.length k p s.wrap) (by omega) (by omega) (by omega)) fun w h => t_tickS h fun w h => ?_
      refine t_ldB h 2 rfl rfl (t_ldB h 3 rfl rfl ?_)
      refine t_callnS (k := .tup [.agg [.I, .bool], .I]) (x := (((M.spotNext s 1 q.l.size).1.at_, (M.spotNext s 1 q.l.size).1.wrap, ()), (M.spotNext s 1 q.l.size).2, ())) (spot_Next_spec h s 1 q.l.size) fun w h => ?_
      refine t_stB h 2 rfl (by simp) (by simp [Value.oneCell']) fun w h => ?_
      dsimp only [List.set, setL, Nat.zero_add] at h
      replace h := h.dropAt 1 (by simp)
      dsimp only [List.eraseIdx] at h
      rw [w64 (n := (k : Int) + 1) (by omega)]
      have hk0 : k ≠ 0 := by omega
      rw [postStep_pos hk0] at hinv
      dsimp only at hinv
      generalize (M.storeM (M.storeM (M.storeM (M.storeM lk (q.l.ring + 16 * s.at_) 8 p.at_) (q.l.ring + 16 * s.at_ + 8) 4 p.n) (q.l.ring + 16 * s.at_ + 12) 2 (M.leastId q.held : Nat)) (q.l.ring + 16 * s.at_ + 14) 2 (M.postFlags ps.length k p s.wrap)) = m4 at h hinv
      refine t_next (hJ (ps.length - (k + 1)) (f, ((k + 1 : Nat) : Int), ()) w (by omega) ⟨k + 1, ⟨m4, (M.spotNext s 1 q.l.size).1, f⟩, by omega, rfl, rfl, hinv, hsn.1, hf, h⟩)
  · have hke : k = ps.length := by omega
    subst hke
    rw [List.drop_length] at hinv
    simp only [M.postGo] at hinv
    have hno : ∀ p ∈ q.held, p.1 ≠ (M.leastId q.held : Nat) := by
      have := (leastId_le q.held).2
      simp only [M.hasId, List.any_eq_false, decide_eq_true_eq] at this
      exact this
    refine t_tickS h fun w h => ?_
    refine t_ldB h 2 rfl rfl (t_ldB h 2 rfl rfl (t_ldB h 2 rfl rfl ?_))
    rw [w64 (n := 16 * q.next.at_) (by omega), w64 (n := q.l.ring + 16 * q.next.at_) (by omega), w64 (n := q.l.ring + 16 * q.next.at_ + 14) (by omega), u64 (n := f) (by omega)]
    refine t_callnS (k := .I) (gmem_Store_spec h (q.l.ring + 16 * q.next.at_ + 14) 2 f (by omega) (by omega) (by omega)) fun w h => ?_
    refine t_ldB (x := some r) h 2 rfl rfl ?_
    refine t_updateII h 3 rfl undMapII undInt hno fun w h => ?_
    refine t_ldB h 2 rfl rfl ?_
    refine t_stB h 2 rfl (by simp) (by simp [Value.oneCell']) fun w h => ?_
    refine t_ldB h 1 rfl rfl ?_
    refine t_stB h 2 rfl (by simp [setL]) (by simp [Value.oneCell']) fun w h => t_tickS h fun w h => ?_
    refine t_ldB h 2 rfl rfl (t_ldB h 2 rfl rfl ?_)
    refine t_stB h 2 rfl (by simp [setL]) (by simp [Value.oneCell']) fun w h => t_ret ⟨rfl, ?_⟩
    dsimp only [List.set, setL, Nat.zero_add, Nat.reduceAdd] at h
    replace h := h.dropAt 1 (by simp)
    dsimp only [List.eraseIdx] at h
    replace h := St.unrot2 h
    have e1 : M.postMem l q ps = (M.storeM lk (q.l.ring + 16 * q.next.at_ + 14) 2 f) := by unfold M.postMem; rw [hinv]
    have e2 : M.postQ l q ps = { q with next := s, since := imn (IntKind.i64.wrap (q.since + (x1.n : Int))) (IntKind.i64.wrap (2 * q.l.size)), free := IntKind.i64.wrap (q.free - (x1.n : Int)), held := q.held ++ [(((M.leastId q.held : Nat) : Int), (x1.n : Int))] } := by
      unfold M.postQ
      rw [hinv, w64 (by omega), w64 (by omega), w64 (by omega), hxn]
      congr 1
      unfold imn
      split <;> omega
    rw [e1, e2]
    exact dq_close _ h

/-- What Post answers and leaves. -/
theorem drvq_Post_spec {b mb : Nat} {l : List UInt8} {q : M.DQ} {x1 : Sl} {ps : List M.Part} (h : St w0 W w (dqR b mb q :: memR mb l :: B)) (hq : q.Ok) (hl : l.length ≤ 1048576) (hro : ∀ w', Keep W w0 w' → Rd w' x1 3 (partsV ps)) (hw : ∀ p ∈ ps, i64R p.at_ ∧ i64R p.n) (hlen : x1.n ≤ 281474976710656) :
    Calls Tryz.prog 5 #[.pointer (some ⟨b, 0, none⟩), .slice x1.a x1.n x1.c] w fun e w' =>
      if M.mayPost l.length q.free ps = 0 then e = .returned (.tuple #[.int .i64 (M.leastId q.held : Nat), .int .i64 0]) ∧ St w0 W w' (dqR b mb (M.postQ l q ps) :: memR mb (M.postMem l q ps) :: B)
      else e = .returned (.tuple #[.int .i64 0, .int .i64 (M.mayPost l.length q.free ps)]) ∧ St w0 W w' (dqR b mb q :: memR mb l :: B) := by
  refine drvq_Queue_Post.calls ⟨b, 0, none⟩ x1 ?_
  unfold drvq_Queue_Post.T
  have hfr := hq.free
  have hsz := hq.size
  refine t_callS (k := .I) (x := M.mayPost l.length q.free ps) (drvq_may_spec h hro hw (by unfold i64R; omega) hlen) fun w h => ?_
  refine t_ifn (fun c1 => t_ret (by rw [if_neg c1]; exact ⟨rfl, h⟩)) (fun c1 => t_tickS h fun w h => ?_)
  simp only [if_pos c1]
  have hlen' := hq.len
  have hc : 1 ≤ ps.length ∧ ps.length ≤ 64 ∧ M.partsOk l.length false ps = true ∧ (ps.length : Int) ≤ q.free := by
    have c := c1
    unfold M.mayPost at c
    split at c
    · omega
    · split at c
      · omega
      · rename_i hp
        split at c
        · omega
        · exact ⟨by omega, by omega, by simpa using hp, by omega⟩
  obtain ⟨r, h'⟩ := dq_open h
  refine t_ldB h' 0 rfl rfl (t_both ?_ ?_)
  · refine t_callnS (k := .I) (x := (M.leastId q.held : Nat)) (drvq_id_spec h (by omega)) fun w h => ?_
    obtain ⟨r, h⟩ := dq_open h
    refine t_keepB h 0 rfl rfl (t_keepN (t_newB h (by simp [Value.oneCell']) fun w a h ha => t_keepB h 1 rfl rfl (t_keepN ?_)))
    refine t_stB h 0 rfl (by simp) (by simp [Value.oneCell']) fun w h => ?_
    dsimp only [List.set, setL, Nat.zero_add] at h
    exact Post_loop hq hl (partsOk_all hc.2.2.1) ⟨hc.1, hc.2.1⟩ hc.2.2.2 hro (St.rot3 h) _
  · refine t_newB h' (by simp [Value.oneCell']) fun w a h ha => t_keepB h 1 rfl rfl (t_keepN ?_)
    have h2 : St w0 W w (dqR b mb q :: blkR a [.int .i64 0, .bool false] 44 :: memR mb l :: B) := dq_close q (St.unrot2 h)
    refine t_callnS (k := .I) (x := (M.leastId q.held : Nat)) (drvq_id_spec h2 (by omega)) fun w h => ?_
    obtain ⟨r, h⟩ := dq_open h
    refine t_keepB h 0 rfl rfl (t_keepN ?_)
    refine t_stB h 2 rfl (by simp) (by simp [Value.oneCell']) fun w h => ?_
    dsimp only [List.set, setL, Nat.zero_add] at h
    exact Post_loop hq hl (partsOk_all hc.2.2.1) ⟨hc.1, hc.2.1⟩ hc.2.2.2 hro (St.rot3 (St.rot2 h)) _
end
end Go.Proofs.YthfcneahnldgnaaGreat
