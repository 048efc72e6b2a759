/- gmem: a guest's memory: contracts, of the program's and of the reference's. -/
import Derived.Test.YthfcneahnldgnaaGreatSpot
namespace Go.Proofs.YthfcneahnldgnaaGreat
open Go Vk
set_option linter.unusedSimpArgs false
set_option linter.unusedVariables false
namespace M
def mayAt (N : Nat) (at_ n : Int) : Bool := decide (0 ≤ at_ ∧ 0 ≤ n ∧ at_ + n ≤ N)
def wr (l : List UInt8) (at_ : Nat) (s : List UInt8) : List UInt8 := l.take at_ ++ s ++ l.drop (at_ + s.length)
def sized (n : Int) : Bool := decide (n = 1 ∨ n = 2 ∨ n = 4 ∨ n = 8)
end M
@[simp] theorem wr_length (l : List UInt8) (at_ : Nat) (s : List UInt8) (h : at_ + s.length ≤ l.length) : (M.wr l at_ s).length = l.length := by simp [M.wr]; omega
theorem slI_acc : slI Tryz.prog 71 = some (103, 4, 32, .agg #[.int .i64 0, .int .i64 0, .int .i64 0, .bool false]) := by kernel_rfl
theorem undAcc : ∃ d, Tryz.prog.underlying 71 = some d ∧ ∀ k, d ≠ .int k := ⟨.slice 103, by kernel_rfl, by simp⟩
theorem undBytes : ∃ d, Tryz.prog.underlying 65 = some d ∧ ∀ k, d ≠ .int k := ⟨.slice 5, by kernel_rfl, by simp⟩
theorem undStr : ∃ d, Tryz.prog.underlying 9 = some d ∧ ∀ k, d ≠ .int k := ⟨.string, by kernel_rfl, by simp⟩

/-- A memory of the program's: what it holds; of its log only how long it may be. -/
def memR (b : Nat) (l : List UInt8) : Res := exR fun x : Sl × Int × Sl × List Value =>
  allR [blkR b [Sl.v x.1, .int .i64 x.2.1, Sl.v x.2.2.1] 95, ownR x.1 5 1 (u8s l), ownR x.2.2.1 103 4 x.2.2.2, pureR (x.2.2.1.n ≤ 8192 ∧ x.1.n = l.length ∧ (∀ v ∈ x.2.2.2, v.oneCell' = true) ∧ l.length ≤ 1048576)]
section
variable {w0 w : World} {W : List Nat} {B : List Res}
theorem mem_open {b : Nat} {l : List UInt8} (h : St w0 W w (memR b l :: B)) : ∃ (s : Sl) (ag : Int) (lg : Sl) (cs : List Value), lg.n ≤ 8192 ∧ s.n = l.length ∧ (∀ v ∈ cs, v.oneCell' = true) ∧ l.length ≤ 1048576 ∧
    St w0 W w (blkR b [Sl.v s, .int .i64 ag, Sl.v lg] 95 :: ownR s 5 1 (u8s l) :: ownR lg 103 4 cs :: B) := by
  obtain ⟨⟨s, ag, lg, cs⟩, h⟩ := h.ex
  have h := h.open
  obtain ⟨⟨h1, h2, h3, h4⟩, h⟩ := St.unpure (St.rot3 h)
  dsimp only at h1 h2 h3 h4 h
  exact ⟨s, ag, lg, cs, h1, h2, h3, h4, h⟩
theorem mem_close {b : Nat} {l : List UInt8} {s : Sl} {ag : Int} {lg : Sl} {cs : List Value} (h1 : lg.n ≤ 8192) (h3 : ∀ v ∈ cs, v.oneCell' = true) (h4 : l.length ≤ 1048576)
    (h : St w0 W w (blkR b [Sl.v s, .int .i64 ag, Sl.v lg] 95 :: ownR s 5 1 (u8s l) :: ownR lg 103 4 cs :: B)) : St w0 W w (memR b l :: B) := by
  have hn := (own_n h 1 rfl).1
  rw [u8s_length] at hn
  exact St.inj (s, ag, lg, cs) (St.close [_, _, _, _] (St.unrot3 (h.pure ⟨h1, by dsimp only; omega, h3, h4⟩)))

theorem gmem_May_spec {b : Nat} {l : List UInt8} (h : St w0 W w (memR b l :: B)) (at_ n : Int) (h1 : -9223372036854775808 ≤ at_ ∧ at_ ≤ 9223372036854775807) (h2 : -9223372036854775808 ≤ n ∧ n ≤ 9223372036854775807) :
    Calls Tryz.prog 41 #[.pointer (some ⟨b, 0, none⟩), .int .i64 at_, .int .i64 n] w fun e w' => e = .returned (.bool (M.mayAt l.length at_ n)) ∧ St w0 W w' (memR b l :: B) := by
  refine gmem_Memory_May.calls ⟨b, 0, none⟩ at_ n ?_
  unfold gmem_Memory_May.T
  obtain ⟨s, ag, lg, cs, hl1, hsn, hl3, hl4, h'⟩ := mem_open h
  refine t_if (fun c1 => ?_) (fun c1 => t_ret ⟨by simp [M.mayAt, c1], h⟩)
  refine t_if (fun c2 => ?_) (fun c2 => t_ret ⟨by simp [M.mayAt, c2], h⟩)
  refine t_ldB (x := s) h' 0 rfl rfl ?_
  refine t_if (fun c3 => ?_) (fun c3 => t_ret ⟨by simp [M.mayAt]; omega, h⟩)
  refine t_ldB (x := s) h' 0 rfl rfl (t_ret ⟨?_, h⟩)
  rw [w64 (by omega)]
  simp only [M.mayAt]
  congr 2
  rw [decide_eq_decide]
  omega

theorem clone_acc_spec {Rs : List Res} (h : St w0 W w Rs) (s : Sl) (cs : List Value) (hsrc : ∀ w', Keep [] w w' → Src Tryz.prog w' 4 (Sl.v s) s.n cs) (hnone : s.a = none → s.n = 0) (hone : ∀ v ∈ cs, v.oneCell' = true) (hs : s.n ≤ 1048576) :
    Calls Tryz.prog 51 #[Sl.v s] w fun e w' => ∃ s' : Sl, e = .returned (Sl.v s') ∧ s'.n = s.n ∧ St w0 W w' (ownR s' 103 4 cs :: Rs) := by
  refine slices_Clone_apiAccessapiAccess.calls s ?_
  unfold slices_Clone_apiAccessapiAccess.T
  refine t_cond (fun c1 => ?_) (fun c1 => ?_)
  · have hn := hnone (by simpa using c1)
    have hcs : cs = [] := List.eq_nil_of_length_eq_zero (by rw [(hsrc w (Keep.refl _ _)).size, hn])
    subst hcs
    exact t_ret ⟨⟨none, 0, 0⟩, rfl, hn.symm, h.push (F' := []) (Keep.refl _ _) (Own.nil _ _ _) (by simp)⟩
  · refine t_newO (sz := 4) h fun w a hk h => ?_
    refine t_append (s := ⟨some a, 0, 0⟩) h 0 rfl slI_acc rfl undAcc (hsrc w hk) hone (by simp; omega) (by omega) fun s' w hn h => t_ret ⟨s', rfl, by simpa using hn, by simpa using h⟩

theorem gmem_note_spec {b : Nat} {l : List UInt8} (h : St w0 W w (memR b l :: B)) (at_ n : Int) (wr : Bool) :
    Calls Tryz.prog 42 #[.pointer (some ⟨b, 0, none⟩), .int .i64 at_, .int .i64 n, .bool wr] w fun e w' => e = .returned (.tuple #[]) ∧ St w0 W w' (memR b l :: B) := by
  refine gmem_Memory_note.calls ⟨b, 0, none⟩ at_ n wr ?_
  unfold gmem_Memory_note.T
  refine t_if (fun c1 => t_ret ⟨rfl, h⟩) (fun c1 => t_tickS h fun w h => ?_)
  obtain ⟨s, ag, lg, cs, hl1, hsn, hl3, hl4, h⟩ := mem_open h
  refine t_ldB (x := lg) h 0 rfl rfl ?_
  refine t_ldB (x := ag) h 0 rfl rfl ?_
  refine t_newB h (by simp [Value.oneCell']) fun w b' h hb' => ?_
  refine t_keepB h 1 rfl rfl (t_keepN ?_)
  have hblk := h.blk 0 rfl
  refine t_append h 3 rfl slI_acc rfl undAcc (Src.of_blk (m := 1) hblk rfl) (by simp [Value.oneCell']) (by omega) (by omega) fun lg' w hn h => ?_
  replace h := h.drop
  refine t_stB h 0 rfl (by simp) (by simp [Value.oneCell']) fun w h => ?_
  dsimp only [List.set, setL, Nat.zero_add] at h
  refine t_ldB (x := lg') h 0 rfl rfl ?_
  have hone : ∀ v ∈ cs ++ [Value.int .i64 ag, .int .i64 at_, .int .i64 n, .bool wr], v.oneCell' = true := by
    intro v hv
    simp only [List.mem_append] at hv
    rcases hv with hv | hv
    · exact hl3 v hv
    · revert v; simp [Value.oneCell']
  refine t_if (fun c2 => ?_) (fun c2 => t_ret ⟨rfl, mem_close (by omega) hone hl4 h⟩)
  refine t_tickS h fun w h => ?_
  refine t_ldB (x := lg') h 0 rfl rfl ?_
  refine t_ldB (x := lg') h 0 rfl rfl ?_
  rw [w64 (by omega)]
  refine t_need (by omega) ?_
  have ht : ((lg'.n : Int) - 4096).toNat = lg'.n - 4096 := by omega
  rw [ht]
  refine t_calln (clone_acc_spec h ⟨slB lg'.a (lg'.n - 4096) 4 lg'.c, lg'.n - (lg'.n - 4096), lg'.c - (lg'.n - 4096)⟩ _ (Src_own_drop h 2 rfl (by omega)) ?_ ?_ ?_) ?_
  · intro hnone
    have : lg'.a = none := by
      simp only [slB] at hnone
      split at hnone
      · exact hnone
      · cases hla : lg'.a with
        | none => rfl
        | some a => rw [hla] at hnone; simp at hnone
    have := own_none h 2 rfl this
    omega
  · intro v hv; exact hone v (List.mem_of_mem_drop hv)
  · dsimp only; omega
  · rintro e w' ⟨s', rfl, hs', h⟩
    refine ⟨s', rfl, ?_⟩
    refine t_stB h 1 rfl (by simp) (by simp [Value.oneCell']) fun w h => t_ret ⟨rfl, ?_⟩
    dsimp only at hs'
    have h := (h.dropAt 3 (by simp)).unrot2
    exact mem_close (by omega) (fun v hv => hone v (List.mem_of_mem_drop hv)) hl4 h

namespace M
/-- What is read, and the error. -/
def read (l : List UInt8) (at_ n : Int) : List UInt8 × Int := if n < 0 then ([], 1) else if mayAt l.length at_ n then ((l.drop at_.toNat).take n.toNat, 0) else ([], 41)
def write (l : List UInt8) (at_ : Int) (s : List UInt8) : List UInt8 × Int := if mayAt l.length at_ s.length then (wr l at_.toNat s, 0) else (l, 41)
def store (l : List UInt8) (at_ n v : Int) : List UInt8 × Int := if sized n then (if (put v n false).2 = 0 then write l at_ (put v n false).1 else (l, (put v n false).2)) else (l, 1)
def storeM (l : List UInt8) (at_ n v : Int) : List UInt8 := (store l at_ n v).1
end M

theorem isBytes_spec {P : Program} {src dst : TypeId} (h : isBytesT P src dst = true) {E : Nat} {l : List UInt8} {a : Addr} {n c : Nat} {w : World} (hn : n = l.length) (hc : ∀ j (hj : j < l.length), w.cell? (a.add j) = some (.int .u8 (l[j].toNat : Int))) :
    (convert src dst (.slice (some a) n c)).run P w = .ok (.string ⟨l.toArray⟩) w := by
  obtain ⟨e, hs, he, hd⟩ := isBytesT_spec h
  subst hn
  exact run_convert_bytes_back w src dst e a c l hs he hd hc

/-- string(s[i:j]) of an own slice of bytes. -/
theorem t_strSub {P : Program} {R : Ending → World → Prop} {Ks : Conts} {src dst : TypeId} {s : Sl} {E : Nat} {l : List UInt8} {k : ByteArray → Tr} {Rs : List Res} {i j m : Nat} (hb : isBytesT P src dst = true) (h : St w0 W w Rs) (x : Nat) (hi : Rs[x]? = some (ownR s E 1 (u8s l))) (hij : i + m ≤ l.length) (hj : j = i + m)
    (hk : (k (mkB ((l.drop i).take m))).wp P R Ks w) : (Tr.sem (convert src dst (.slice (slB s.a i 1 s.c) (j - i) (s.c - i))) .S k).wp P R Ks w := by
  subst hj
  rw [show i + m - i = m by omega]
  obtain ⟨F, hF⟩ := h.get x hi
  have hO : Own w s E 1 (u8s l) F := hF
  have hcl := hO.len
  have hcap := hO.cap
  rw [u8s_length, Nat.mul_one] at hcl
  refine t_sem (k := .S) _ ?_ hk
  rcases hO.at_ with ⟨h1, h2, _⟩ | ⟨b, o, blk, h1, rfl, hbk, hl, ht⟩
  · have e : slB s.a i 1 s.c = none := by rw [h1]; unfold slB; split <;> rfl
    have h0 : m = 0 := by omega
    subst h0
    rw [e]
    have := run_str_own (P := P) (w := w) hb (s := ⟨none, 0, s.c - i⟩) (E := E) (l := []) (F := []) ⟨rfl, Nat.zero_le _, .inl ⟨rfl, by dsimp only; omega, rfl⟩⟩
    simpa [mkB, Rk.v, Kd.v, Sc.v] using this
  · have hcell : ∀ j, j < l.length → blk[o + j]? = some (.int .u8 ((l.getD j 0).toNat : Int)) := by
      intro j hj
      have h2 : ((blk.drop o).take (u8s l).length)[j]? = (u8s l)[j]? := by rw [ht]
      rw [List.getElem?_take_of_lt (by simpa using hj), List.getElem?_drop, u8s_get hj] at h2
      simpa [List.getD, hj] using h2
    by_cases hkc : s.c = i
    · have e : slB s.a i 1 s.c = s.a := by unfold slB; rw [if_pos hkc]
      have h0 : m = 0 := by omega
      subst h0
      rw [e, h1]
      exact isBytes_spec hb (E := E) rfl (by simp)
    · have e : slB s.a i 1 s.c = some ⟨b, o + i, none⟩ := by unfold slB; rw [if_neg hkc, h1]; simp
      rw [e]
      refine isBytes_spec hb (E := E) (by simp; omega) fun j hj => ?_
      have hj' : j < m := by simp at hj; omega
      rw [add_mk, hbk.cell, Nat.add_assoc, hcell (i + j) (by omega)]
      simp [List.getD, show i + j < l.length by omega]

theorem gmem_Read_spec {b : Nat} {l : List UInt8} (h : St w0 W w (memR b l :: B)) (at_ n : Int) (h1 : -9223372036854775808 ≤ at_ ∧ at_ ≤ 9223372036854775807) (h2 : -9223372036854775808 ≤ n ∧ n ≤ 9223372036854775807) :
    Calls Tryz.prog 36 #[.pointer (some ⟨b, 0, none⟩), .int .i64 at_, .int .i64 n] w fun e w' => e = .returned (.tuple #[.string (mkB (M.read l at_ n).1), .int .i64 (M.read l at_ n).2]) ∧ St w0 W w' (memR b l :: B) := by
  refine gmem_Memory_Read.calls ⟨b, 0, none⟩ at_ n ?_
  unfold gmem_Memory_Read.T
  refine t_if (fun c1 => t_ret ⟨by simp [M.read, c1, mkB], h⟩) (fun c1 => ?_)
  refine t_callS (k := .B) (x := M.mayAt l.length at_ n) (gmem_May_spec h at_ n h1 h2) fun w h => ?_
  refine t_not (fun c2 => t_ret ⟨by simp [M.read, c1, c2, mkB], h⟩) (fun c2 => ?_)
  have hm := c2
  simp only [M.mayAt, decide_eq_true_eq] at hm
  refine t_callS (k := .tup []) (x := ()) (gmem_note_spec h at_ n false) fun w h => ?_
  have hend := h
  obtain ⟨s, ag, lg, cs, hl1, hsn, hl3, hl4, h⟩ := mem_open h
  have hcap := (own_n h 1 rfl).2
  refine t_ldB (x := s) h 0 rfl rfl ?_
  rw [w64 (by omega)]
  refine t_need (by omega) ?_
  refine t_strSub (m := n.toNat) bytesT h 1 rfl (by omega) (by omega) (t_ret ⟨?_, hend⟩)
  simp [M.read, c1, c2]

theorem u8s_wr (l : List UInt8) (at_ : Nat) (s : List UInt8) (h : at_ + s.length ≤ l.length) : setL (u8s l) at_ (u8s s) = u8s (M.wr l at_ s) := by
  rw [setL_drop _ _ _ (by simpa using h)]
  simp [M.wr, u8s]
theorem Src_str (l : List UInt8) (w : World) : Src Tryz.prog w 1 (.string (mkB l)) l.length (u8s l) := by
  have := Src.of_str (P := Tryz.prog) (w := w) (mkB l)
  rw [mkB_size] at this
  have e : ((mkB l).data.toList.map fun b => Value.int .u8 b.toNat) = u8s l := by simp [mkB, u8s]
  rw [e] at this
  exact this
theorem gmem_Write_spec {b : Nat} {l : List UInt8} (h : St w0 W w (memR b l :: B)) (at_ : Int) (t : List UInt8) (h1 : -9223372036854775808 ≤ at_ ∧ at_ ≤ 9223372036854775807) (h2 : t.length ≤ 140737488355328) :
    Calls Tryz.prog 10 #[.pointer (some ⟨b, 0, none⟩), .int .i64 at_, .string (mkB t)] w fun e w' => e = .returned (.int .i64 (M.write l at_ t).2) ∧ St w0 W w' (memR b (M.write l at_ t).1 :: B) := by
  refine gmem_Memory_Write.calls ⟨b, 0, none⟩ at_ (mkB t) ?_
  unfold gmem_Memory_Write.T
  rw [mkB_size]
  refine t_callS (k := .B) (x := M.mayAt l.length at_ t.length) (gmem_May_spec h at_ t.length h1 (by omega)) fun w h => ?_
  refine t_not (fun c2 => t_ret ⟨by simp [M.write, c2], by simpa [M.write, c2] using h⟩) (fun c2 => ?_)
  have hm := c2
  simp only [M.mayAt, decide_eq_true_eq] at hm
  refine t_callS (k := .tup []) (x := ()) (gmem_note_spec h at_ t.length true) fun w h => ?_
  obtain ⟨s, ag, lg, cs, hl1, hsn, hl3, hl4, h⟩ := mem_open h
  refine t_ldB (x := s) h 0 rfl rfl ?_
  refine t_need (by omega) ?_
  refine t_copyO (m := t.length) (xs := u8s t) h 1 rfl slI_bytes (Src_str t w) (u8s_oneCell t) (by omega) fun w h => t_ret ⟨by simp [M.write, c2], ?_⟩
  rw [Nat.mul_one, u8s_wr _ _ _ (by omega)] at h
  have hw : (M.write l at_ t).1 = M.wr l at_.toNat t := by simp [M.write, c2]
  rw [hw]
  exact mem_close hl1 hl3 (by rw [wr_length _ _ _ (by omega)]; exact hl4) h

theorem gmem_sized_spec (h : St w0 W w B) (n : Int) : Calls Tryz.prog 53 #[.int .i64 n] w fun e w' => e = .returned (.bool (M.sized n)) ∧ St w0 W w' B := by
  refine gmem_sized.calls n ?_
  unfold gmem_sized.T
  refine t_if (fun c1 => t_ret ⟨by simp [M.sized, c1], h⟩) (fun c1 => ?_)
  refine t_if (fun c2 => t_ret ⟨by simp [M.sized, c2], h⟩) (fun c2 => ?_)
  refine t_if (fun c3 => t_ret ⟨by simp [M.sized, c3], h⟩) (fun c3 => t_ret ⟨by simp [M.sized, c1, c2, c3], h⟩)

theorem gmem_Store_spec {b : Nat} {l : List UInt8} (h : St w0 W w (memR b l :: B)) (at_ n v : Int) (h1 : -9223372036854775808 ≤ at_ ∧ at_ ≤ 9223372036854775807) (h2 : 0 ≤ v) (h3 : v < 18446744073709551616) :
    Calls Tryz.prog 19 #[.pointer (some ⟨b, 0, none⟩), .int .i64 at_, .int .i64 n, .int .u64 v] w fun e w' => e = .returned (.int .i64 (M.store l at_ n v).2) ∧ St w0 W w' (memR b (M.storeM l at_ n v) :: B) := by
  refine gmem_Memory_Store.calls ⟨b, 0, none⟩ at_ n v ?_
  unfold gmem_Memory_Store.T
  refine t_callS (k := .B) (x := M.sized n) (gmem_sized_spec h n) fun w h => ?_
  refine t_not (fun c1 => t_ret ⟨by simp [M.store, c1], by simpa [M.storeM, M.store, c1] using h⟩) (fun c1 => ?_)
  refine t_callS (k := .tup [.S, .I]) (x := (mkB (M.put v n false).1, (M.put v n false).2, ())) (words_Put_spec h v n false h2 h3) fun w h => ?_
  refine t_ifn (fun c2 => t_ret ⟨by simp [M.store, c1, c2], by simpa [M.storeM, M.store, c1, c2] using h⟩) (fun c2 => ?_)
  have hp : (M.put v n false).1.length ≤ 140737488355328 := by
    unfold M.put at c2 ⊢
    split
    · rename_i hm
      simp only [M.may, decide_eq_true_eq] at hm
      simp; omega
    · simp
  refine t_callS (k := .I) (x := (M.write l at_ (M.put v n false).1).2) (gmem_Write_spec h at_ _ h1 hp) fun w h => t_ret ⟨?_, ?_⟩
  · dsimp only at c2; simp [M.store, c1, c2]
  · dsimp only at c2; simpa [M.storeM, M.store, c1, c2] using h

theorem gmem_Image_spec {b : Nat} {l : List UInt8} (h : St w0 W w (memR b l :: B)) :
    Calls Tryz.prog 26 #[.pointer (some ⟨b, 0, none⟩)] w fun e w' => e = .returned (.string (mkB l)) ∧ St w0 W w' (memR b l :: B) := by
  refine gmem_Memory_Image.calls ⟨b, 0, none⟩ ?_
  unfold gmem_Memory_Image.T
  obtain ⟨s, ag, lg, cs, hl1, hsn, hl3, hl4, h'⟩ := mem_open h
  refine t_ldB (x := s) h' 0 rfl rfl (t_str bytesT h' 1 rfl (t_ret ⟨rfl, h⟩))

theorem gmem_New_spec (h : St w0 W w B) (n : Int) : Calls Tryz.prog 22 #[.int .i64 n] w fun e w' =>
    if n < 64 ∨ 1048576 < n then e = .returned (.tuple #[.pointer none, .int .i64 40]) ∧ St w0 W w' B
    else ∃ b, e = .returned (.tuple #[.pointer (some ⟨b, 0, none⟩), .int .i64 0]) ∧ St w0 W w' (memR b (List.replicate n.toNat 0) :: B) := by
  refine gmem_New.calls n ?_
  unfold gmem_New.T
  refine t_if (fun c1 => t_ret (by rw [if_pos (by omega)]; exact ⟨rfl, h⟩)) (fun c1 => ?_)
  refine t_if (fun c2 => t_ret (by rw [if_pos (by omega)]; exact ⟨rfl, h⟩)) (fun c2 => ?_)
  refine t_make h slI_bytes rfl (by omega) (by omega) (by omega) fun s w hsn hsc hsa h => ?_
  rw [zeroRow_u8] at h
  refine t_newB h (by simp [Value.oneCell']) fun w b h hb => t_ret ?_
  rw [if_neg (by omega)]
  refine ⟨b, rfl, mem_close (s := s) (ag := 0) (lg := ⟨none, 0, 0⟩) (cs := []) (by simp) (by simp) (by simp; omega) ?_⟩
  exact (St.push (A := ownR ⟨none, 0, 0⟩ 103 4 []) (F' := []) h (Keep.refl _ _) (Own.nil _ _ _) (by simp)).unrot2
end
end Go.Proofs.YthfcneahnldgnaaGreat
