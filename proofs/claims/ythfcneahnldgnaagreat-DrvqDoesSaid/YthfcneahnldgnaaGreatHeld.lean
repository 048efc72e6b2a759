/- The keys of a map from int to int, sorted: the kit's contracts on maps.Keys and slices.Sorted, laid at this program. -/
import Derived.Test.YthfcneahnldgnaaGreatRef15New
import Derived.Test.YthfcneahnldgnaaGreatVkSpec
import Derived.Shelf.SlIterI.Nil
import Derived.Shelf.SortM.Plain
import Derived.Shelf.SortM.SortNone
import Derived.Shelf.SlIterI.Collect
import Derived.Shelf.SlIterI.Sorted
import Derived.Ground.GgzProg
import Derived.Ground.SlgmProg
import Derived.Maps.OwnSet
namespace Go.Proofs.YthfcneahnldgnaaGreat
open Go Vk Go.RowKit Go.Maps Go.Sort Go.Shelf
set_option linter.unusedSimpArgs false
set_option linter.unusedVariables false

shelf_lay_g SlLaysZI.n7 Ggz 7 at Tryz 77 as Tryz.keysA
shelf_lay_g SlLaysZI.n10 Ggz 10 at Tryz 86 as Tryz.keys1A
shelf_lay_g SlLaysZI.n6 Ggz 6 at Tryz 76 as Tryz.sortedA
shelf_lay_g SlLaysM.n5 Slgm 5 at Tryz 85 as Tryz.sortA
theorem keysA_f : Tryz.keysA_ren.f 7 = 77 := by kernel_rfl
theorem keysA_f1 : Tryz.keysA_ren.f 10 = Tryz.keys1A_ren.f 10 := by kernel_rfl
theorem keysA_t : Tryz.keysA_ren.t 23 = 76 := by kernel_rfl
theorem keys1A_t : Tryz.keys1A_ren.t 26 = 3 := by kernel_rfl
theorem sortedA_f : Tryz.sortedA_ren.f 6 = 76 := by kernel_rfl
theorem sortedA_f9 : Tryz.sortedA_ren.f 9 = Tryz.sortA_ren.f 5 := by kernel_rfl
theorem sortedA_t : Tryz.sortedA_ren.t 26 = 3 := by kernel_rfl
theorem wide_fn (f : FuncId) : Fence.wide.fn f := trivial
theorem sortsA (n : Nat) : AnyZI.SortsIn Tryz.prog Tryz.sortedA_ren Fence.wide n := by
  refine ⟨fun blk off cap ss W h1 h2 h3 => callsIn_wide.2 ?_, fun p cap W => callsIn_wide.2 ?_⟩
  · rw [sortedA_f9]; exact AnyM.slices_Sort_int Tryz.sortA blk off cap ss W h1 h2 h3
  · rw [sortedA_f9]; exact AnyM.slices_Sort_int_none Tryz.sortA p cap W
theorem insert_perm {H : Type} (x : Lit × DataW H) : ∀ l : List (Lit × DataW H), (DataW.insert x l).Perm (x :: l)
  | [] => List.Perm.refl _
  | y :: r => by
    unfold DataW.insert
    split
    · exact List.Perm.refl _
    · exact ((insert_perm x r).cons y).trans (List.Perm.swap x y r)
theorem foldr_insert_perm {H : Type} : ∀ l : List (Lit × DataW H), (l.foldr DataW.insert []).Perm l
  | [] => List.Perm.refl _
  | x :: l => (insert_perm x _).trans ((foldr_insert_perm l).cons x)
namespace M
/-- The keys, rising. -/
def keysOf (m : List (Int × Int)) : List Int := (m.map (·.1)).mergeSort fun x y => decide (x ≤ y)
end M
def nilR : Value → Option (DataW Unit × List MemPlace) := fun _ => some (.nil, [])
theorem mapAt_reads {w : World} {r : Nat} {m : List (Int × Int)} {A : Array MapEntry} {clock : Nat} (h : MapAt w r m A clock) (hk : ∀ p ∈ m, i64R p.1) : ∀ x ∈ A.toList, ∃ k : Int, x.key = .int .i64 k ∧ WideElems.rd (H := Unit) Tryz.prog 3 nilR x = some (.int .i64 k, .nil) := by
  intro x hx
  have : (x.key, x.val) ∈ m.map kvII := by rw [← h.eq]; exact List.mem_map.2 ⟨x, hx, rfl⟩
  obtain ⟨p, hp, hp'⟩ := List.mem_map.1 this
  simp only [kvII, Prod.mk.injEq] at hp'
  have hr := hk p hp
  have hw : (Lit.int .i64 p.1).wf = true := by unfold i64R at hr; simp [Lit.wf]; exact hr
  refine ⟨p.1, hp'.1.symm, ?_⟩
  unfold WideElems.rd
  rw [← hp'.1, keyOf_int_mk undInt hw]
  rfl
theorem mapAt_owns {w : World} {r : Nat} {m : List (Int × Int)} {A : Array MapEntry} {clock : Nat} (h : MapAt w r m A clock) (hk : ∀ p ∈ m, i64R p.1) (hm : m.length ≤ 1048576) :
    ∃ D : DataW Unit, w.ownsMap Tryz.prog 3 nilR r A.size D ∧ (intKeys D).Perm (m.map (·.1)) ∧ Maps.size D ≤ 1048576 := by
  have hr := mapAt_reads h hk
  have hl : A.size = m.length := by have := congrArg List.length h.eq; simpa using this
  have hfit : WideElems.Fit (H := Unit) Tryz.prog 3 nilR A clock := ⟨by unfold maxLen; omega, h.stamped, fun x hx => by obtain ⟨k, _, h2⟩ := hr x hx; exact ⟨_, h2⟩⟩
  have hown := World.ownsMap_of_fit (P := Tryz.prog) (k := 3) (R := nilR) h.heap hfit (fun x hx z hz => hz)
  refine ⟨_, hown, ?_, by have := hown.size_le; omega⟩
  show ((List.foldr DataW.insert [] (A.toList.map (WideElems.rg Tryz.prog 3 nilR))).map fun p => Go.intOf p.1).Perm _
  refine ((foldr_insert_perm _).map _).trans ?_
  have e : (A.toList.map (WideElems.rg Tryz.prog 3 nilR)).map (fun p => Go.intOf p.1) = m.map (·.1) := by
    have h1 : A.toList.map (fun x => x.key) = m.map (fun p => Value.int .i64 p.1) := by
      have := congrArg (List.map Prod.fst) h.eq
      simpa [List.map_map, Function.comp_def, kvII] using this
    have h2 : (A.toList.map (WideElems.rg Tryz.prog 3 nilR)).map (fun p => Go.intOf p.1) = (A.toList.map (fun x => x.key)).map (fun v => match v with | .int _ k => k | _ => 0) := by
      rw [List.map_map, List.map_map]
      apply List.map_congr_left
      intro x hx
      obtain ⟨k, h3, h4⟩ := hr x hx
      simp only [Function.comp_def]
      unfold WideElems.rg
      rw [h4, h3]
      rfl
    rw [h2, h1, List.map_map]
    rfl
  rw [e]
theorem own_of_row {w : World} {base ty n : Nat} {v : Value} {xs : List Value} (h : w.ownsRow base ty 1 v n xs) : ∃ (s : Sl) (F : List Nat), v = Sl.v s ∧ s.n = n ∧ Own w s ty 1 xs F ∧ ∀ b ∈ F, base ≤ b := by
  obtain ⟨h1, h2 | ⟨g, cap, cur, rfl, h3, h4, h5, h6, h7, h8⟩⟩ := h
  · obtain ⟨rfl, rfl⟩ := h2
    have : xs = [] := List.eq_nil_of_length_eq_zero (by simpa using h1)
    subst this
    exact ⟨⟨none, 0, 0⟩, [], rfl, rfl, Own.nil _ _ _, by simp⟩
  · refine ⟨⟨some ⟨g, 0, none⟩, n, cap⟩, [g], rfl, rfl, ?_, by simpa using h3⟩
    refine Own.fresh g cur.toList rfl (by simpa [Blk] using h4) h1 h5 (by simp [h7]) ?_
    rw [h1]; exact h8
/-- maps.Keys and slices.Sorted behind one another. -/
theorem sortedKeys {w0 w : World} {W : List Nat} {B : List Res} {r : Nat} {m : List (Int × Int)} (h : St w0 W w (mapR r m :: B)) (hk : ∀ p ∈ m, i64R p.1) (hm : m.length ≤ 1048576) {R : Ending → World → Prop} {Ks : Conts} {c : Sl → Tr}
    (hc : ∀ (s : Sl) w', s.n = m.length → St w0 W w' (ownR s 3 1 (intsV (M.keysOf m)) :: mapR r m :: B) → (c s).wp Tryz.prog R Ks w') :
    (Tr.call 77 #[.map (some r)] .V fun v => .call 76 #[v] .L c).wp Tryz.prog R Ks w := by
  have h1 := AnyZI.keys_in Tryz.keysA Fence.wide 1 (wide_fn _) rfl (some r) w
  rw [callsIn_wide, keysA_f] at h1
  refine t_call h1 ?_
  rintro e w1 ⟨rfl, rfl⟩
  refine ⟨_, rfl, ?_⟩
  rw [keysA_f1, keysA_t]
  obtain ⟨F, ⟨rfl, A, clock, hA⟩, hu⟩ := h.upd
  obtain ⟨D, hD, hp, hs⟩ := mapAt_owns hA hk hm
  have hst : St w0 W (w.alloc (.cells #[.map (some r)] 76)) (mapR r m :: B) := h.keep ((Keep.refl _ _).alloc _)
  have hg := AnyZI.keys_gives (H := Unit) Tryz.keys1A Fence.wide 1 (wide_fn _) rfl (Nat.le_refl _) w.heap.size r A.size D (R := nilR) (w.alloc (.cells #[.map (some r)] 76)) (by simp) (by
    have := (Blk.new w [.map (some r)] 76).cell 0
    exact this) (by rw [keys1A_t]; exact hD.alloc _)
  have h2 := AnyZI.sorted_in Tryz.sortedA Fence.wide 4 (wide_fn _) (wide_fn _) (wide_fn _) (wide_fn _) rfl (Nat.le_refl _) (sortsA _) (by rw [sortedA_f9]; exact Tryz.sortA.f5.enters rfl) _ _ (wide_fn _) (Tryz.keys1A.f10.enters rfl) _ _ (by unfold maxLen; omega) (by omega) _ hg
  rw [callsIn_wide, sortedA_f, sortedA_t] at h2
  refine t_call h2 ?_
  rintro e w2 ⟨v, ss, rfl, hS, hrow, _, hb⟩
  obtain ⟨s, F, rfl, hn, hown, hF⟩ := own_of_row hrow
  refine ⟨s, rfl, hc s w2 ?_ ?_⟩
  · rw [hn, hS.length_eq, hp.length_eq]; simp
  · refine hst.push (keep_of_below hb) (F' := F) ?_ hF
    have e : ss.mergeSort (fun x y => decide (x ≤ y)) = M.keysOf m := by
      unfold M.keysOf
      have tr : ∀ a b c : Int, decide (a ≤ b) = true → decide (b ≤ c) = true → decide (a ≤ c) = true := by
        intro a b c h1 h2; simp at *; omega
      have tt : ∀ a b : Int, (decide (a ≤ b) || decide (b ≤ a)) = true := by intro a b; simp; omega
      refine List.Perm.eq_of_pairwise (le := fun x y => decide (x ≤ y)) ?_ (List.pairwise_mergeSort tr tt _) (List.pairwise_mergeSort tr tt _) ?_
      · intro a b _ _ h1 h2; simp at h1 h2; omega
      · exact (List.mergeSort_perm _ _).trans ((hS.trans hp).trans (List.mergeSort_perm _ _).symm)
    rw [e] at hown
    exact hown
theorem dq_shut {w0 w : World} {W : List Nat} {Rs rest : List Res} {b mb r : Nat} (q : M.DQ) (h : St w0 W w Rs) (hs : Vk.Sub Rs [blkR b [.pointer (some ⟨mb, 0, none⟩), .int .i64 q.l.ring, .int .i64 q.l.size, .int .i64 q.l.drv, .int .i64 q.l.dev, .int .i64 q.next.at_, .bool q.next.wrap, .int .i64 q.back.at_, .bool q.back.wrap, .int .i64 q.told.at_, .bool q.told.wrap, .int .i64 q.since, .int .i64 q.free, .map (some r)] 78, mapR r q.held] rest) : St w0 W w (dqR b mb q :: rest) :=
  dq_close q (h.sub hs)
/-- What Held answers. -/
theorem drvq_Held_fn {b mb : Nat} {q : M.DQ} (hk : ∀ p ∈ q.held, i64R p.1) (hm : q.held.length ≤ 1048576) :
    ConE Tryz.prog NoRo 57 #[.pointer (some ⟨b, 0, none⟩)] .L [dqR b mb q] fun s post => s.n = q.held.length ∧ post = [ownR s 3 1 (intsV (M.keysOf q.held)), dqR b mb q] := by
  intro w0 W w B _ h
  refine drvq_Queue_Held.calls ⟨b, 0, none⟩ ?_
  unfold drvq_Queue_Held.T
  obtain ⟨r, h⟩ := dq_open h
  refine t_ldB (x := some r) h 0 rfl rfl ?_
  refine sortedKeys h.swap hk hm fun s w hn h => t_ret ⟨s, _, rfl, ⟨hn, rfl⟩, ?_⟩
  exact (dq_shut q h (by repeat (first | exact Sub.nil _ | apply Sub.c0 | apply Sub.c1 | apply Sub.c2 | apply Sub.c3 | apply Sub.c4 | apply Sub.c5 | apply Sub.c6 | apply Sub.c7 | apply Sub.c8 | apply Sub.c9 | apply Sub.c10 | apply Sub.c11 | exact Sub.refl _))).perm (by repeat (first | exact Sub.nil _ | apply Sub.c0 | apply Sub.c1 | apply Sub.c2 | apply Sub.c3 | apply Sub.c4 | apply Sub.c5 | apply Sub.c6 | apply Sub.c7 | apply Sub.c8 | apply Sub.c9 | apply Sub.c10 | apply Sub.c11 | exact Sub.refl _))
end Go.Proofs.YthfcneahnldgnaaGreat
