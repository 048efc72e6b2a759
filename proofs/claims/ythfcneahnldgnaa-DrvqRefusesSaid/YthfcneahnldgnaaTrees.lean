/- Trees: printed by a program of this session's out of the loaded code; each is held against the code by the kernel. -/
import Derived.Test.YthfcneahnldgnaaVkFn
import Derived.Test.YthfcneahnldgnaaProg
import Derived.KernelRfl
namespace Go.Proofs.Ythfcneahnldgnaa
open Go Vk
set_option linter.unusedVariables false
def CC : Nat → Bool := inL [2, 3, 4, 5, 6, 7, 8, 9, 10, 11, 12, 13, 14, 15, 16, 17, 18, 19, 20, 21, 22, 23, 24, 25, 26, 27, 28, 29, 30, 31, 32, 33, 34, 35, 36, 37, 38, 39, 40, 41, 42, 43, 44, 45, 46, 47, 48, 49, 50, 51, 52, 53, 54, 55, 56, 57, 58, 59, 60, 61, 62, 63, 64, 65, 66, 67, 68, 69, 70, 71, 73, 74, 75, 76, 77, 78, 79, 80, 81, 82, 83, 84, 85, 86, 87, 88, 89, 90, 91, 92, 93, 94, 95, 96, 97, 98, 99, 100, 101, 102, 105, 106, 107, 108, 109, 110, 111]
theorem hCC : Callable Try.prog CC := callable_of (by kernel_rfl)
theorem hMO : Try.prog.follows .mixedOrders = true := by kernel_rfl

/-- (*aqueduct/gmem.Memory).Image -/
def gmem_Memory_Image.T (x0 : Addr) : Tr :=
  .ld (x0.add 0) .L fun (l0 : Sl) =>
  .sem (Go.convert (85) (9) (.slice l0.a l0.n l0.c)) .S fun (s1 : ByteArray) =>
  .ret (.string s1)
theorem gmem_Memory_Image.eq (x0 : Addr) : trOf Try.prog CC (.o) Try.f8 [.pointer (some x0)] = gmem_Memory_Image.T x0 := by kernel_rfl
theorem gmem_Memory_Image.calls (x0 : Addr) {R : Ending → World → Prop} {w : World} (h : (gmem_Memory_Image.T x0).wp Try.prog R Conts.none w) : Calls Try.prog 8 #[.pointer (some x0)] w R :=
  calls_of_tr (args := [.pointer (some x0)]) hCC hMO Try.func8 ((gmem_Memory_Image.eq x0).symm ▸ h)

/-- (*aqueduct/drvq.Queue).Free -/
def drvq_Queue_Free.T (x0 : Addr) : Tr :=
  .ld (x0.add 12) .I fun (i0 : Int) =>
  .ret (.int .i64 i0)
theorem drvq_Queue_Free.eq (x0 : Addr) : trOf Try.prog CC (.o) Try.f9 [.pointer (some x0)] = drvq_Queue_Free.T x0 := by kernel_rfl
theorem drvq_Queue_Free.calls (x0 : Addr) {R : Ending → World → Prop} {w : World} (h : (drvq_Queue_Free.T x0).wp Try.prog R Conts.none w) : Calls Try.prog 9 #[.pointer (some x0)] w R :=
  calls_of_tr (args := [.pointer (some x0)]) hCC hMO Try.func9 ((drvq_Queue_Free.eq x0).symm ▸ h)

/-- (*aqueduct/drvq.Queue).Held -/
def drvq_Queue_Held.T (x0 : Addr) : Tr :=
  .ld (x0.add 13) .M fun (p0 : Option Nat) =>
  .call 36 #[.map p0] .V fun (v1 : Value) =>
  .call 35 #[v1] .L fun (l2 : Sl) =>
  .ret (.slice l2.a l2.n l2.c)
theorem drvq_Queue_Held.eq (x0 : Addr) : trOf Try.prog CC (.o) Try.f10 [.pointer (some x0)] = drvq_Queue_Held.T x0 := by kernel_rfl
theorem drvq_Queue_Held.calls (x0 : Addr) {R : Ending → World → Prop} {w : World} (h : (drvq_Queue_Held.T x0).wp Try.prog R Conts.none w) : Calls Try.prog 10 #[.pointer (some x0)] w R :=
  calls_of_tr (args := [.pointer (some x0)]) hCC hMO Try.func10 ((drvq_Queue_Held.eq x0).symm ▸ h)

/-- (*aqueduct/drvq.Queue).Back -/
def drvq_Queue_Back.T (x0 : Addr) : Tr :=
  .new 42 [.int .i64 0, .bool false] fun (a0 : Addr) =>
  .ld (x0.add 7) (.agg [.I, .bool]) fun (r1 : Int × Bool × Unit) =>
  .st a0 [.int .i64 r1.1, .bool r1.2.1] <|
  .ld a0 (.agg [.I, .bool]) fun (r2 : Int × Bool × Unit) =>
  .ret (.agg #[.int .i64 r2.1, .bool r2.2.1])
theorem drvq_Queue_Back.eq (x0 : Addr) : trOf Try.prog CC (.o) Try.f11 [.pointer (some x0)] = drvq_Queue_Back.T x0 := by kernel_rfl
theorem drvq_Queue_Back.calls (x0 : Addr) {R : Ending → World → Prop} {w : World} (h : (drvq_Queue_Back.T x0).wp Try.prog R Conts.none w) : Calls Try.prog 11 #[.pointer (some x0)] w R :=
  calls_of_tr (args := [.pointer (some x0)]) hCC hMO Try.func11 ((drvq_Queue_Back.eq x0).symm ▸ h)

/-- (*aqueduct/drvq.Queue).Post -/
def drvq_Queue_Post.L0 (x1 : Sl) (a3 : Addr) (x0 : Addr) (i2 : Int) : Tr :=
  .loop 0 [.I, .I] (((0 : Int), (0 : Int), ())) fun (r4 : Int × Int × Unit) =>
      .cond (decide (r4.2.1 < (↑x1.n : Int))) (
        .need ((0 : Int) ≤ r4.2.1 ∧ r4.2.1 < (↑x1.n : Int)) <|
        .nil x1.a fun (a5 : Addr) =>
        .ld (a5.add (Int.toNat r4.2.1 * 3)) (.agg [.I, .I, .bool]) fun (r6 : Int × Int × Bool × Unit) =>
        .new 56 [.int .i64 0, .int .i64 0, .bool false] fun (a7 : Addr) =>
        .st a7 [.int .i64 r6.1, .int .i64 r6.2.1, .bool r6.2.2.1] <|
        .bind 1 [.I] (
          .cond (decide (r4.2.1 < IntKind.i64.wrap ((↑x1.n : Int) - (1 : Int)))) (
            .jmp 1 [.int .i64 (bor IntKind.i64 (0 : Int) (1 : Int))]) <|
          .jmp 1 [.int .i64 0]) fun (r8 : Int × Unit) =>
        .bind 1 [.I] (
          .ld (a7.add 2) .B fun (b9 : Bool) =>
          .cond b9 (
            .jmp 1 [.int .i64 (bor IntKind.i64 r8.1 (2 : Int))]) <|
          .jmp 1 [.int .i64 r8.1]) fun (r10 : Int × Unit) =>
        .ld (a3.add 1) .B fun (b11 : Bool) =>
        .call 39 #[.int .i64 r10.1, .bool b11, .bool false] .I fun (i12 : Int) =>
        .tick <|
        .ld ((x0.add 1).add 0) .I fun (i13 : Int) =>
        .ld (a3.add 0) .I fun (i14 : Int) =>
        .tick <|
        .ld (x0.add 0) .P fun (p15 : Option Addr) =>
        .ld (a7.add 0) .I fun (i16 : Int) =>
        .calln 40 #[.pointer p15, .int .i64 (IntKind.i64.wrap (i13 + IntKind.i64.wrap ((16 : Int) * i14))), .int .i64 8, .int .u64 (IntKind.u64.wrap i16)] .I fun (i17 : Int) =>
        .tick <|
        .ld (x0.add 0) .P fun (p18 : Option Addr) =>
        .ld (a7.add 1) .I fun (i19 : Int) =>
        .calln 40 #[.pointer p18, .int .i64 (IntKind.i64.wrap (IntKind.i64.wrap (i13 + IntKind.i64.wrap ((16 : Int) * i14)) + (8 : Int))), .int .i64 4, .int .u64 (IntKind.u64.wrap i19)] .I fun (i20 : Int) =>
        .ld (x0.add 0) .P fun (p21 : Option Addr) =>
        .call 40 #[.pointer p21, .int .i64 (IntKind.i64.wrap (IntKind.i64.wrap (i13 + IntKind.i64.wrap ((16 : Int) * i14)) + (12 : Int))), .int .i64 2, .int .u64 (IntKind.u64.wrap i2)] .I fun (i22 : Int) =>
        .cond (decide (r4.2.1 = (0 : Int))) (
          .tick <|
          .ld a3 (.agg [.I, .bool]) fun (r23 : Int × Bool × Unit) =>
          .ld ((x0.add 1).add 1) .I fun (i24 : Int) =>
          .calln 41 #[.agg #[.int .i64 r23.1, .bool r23.2.1], .int .i64 1, .int .i64 i24] (.tup [(.agg [.I, .bool]), .I]) fun (r25 : (Int × Bool × Unit) × Int × Unit) =>
          .st a3 [.int .i64 r25.1.1, .bool r25.1.2.1] <|
          .jmp 0 [.int .i64 i12, .int .i64 (IntKind.i64.wrap (r4.2.1 + (1 : Int)))]) <|
        .ld (x0.add 0) .P fun (p26 : Option Addr) =>
        .call 40 #[.pointer p26, .int .i64 (IntKind.i64.wrap (IntKind.i64.wrap (i13 + IntKind.i64.wrap ((16 : Int) * i14)) + (14 : Int))), .int .i64 2, .int .u64 (IntKind.u64.wrap i12)] .I fun (i27 : Int) =>
        .tick <|
        .ld a3 (.agg [.I, .bool]) fun (r28 : Int × Bool × Unit) =>
        .ld ((x0.add 1).add 1) .I fun (i29 : Int) =>
        .calln 41 #[.agg #[.int .i64 r28.1, .bool r28.2.1], .int .i64 1, .int .i64 i29] (.tup [(.agg [.I, .bool]), .I]) fun (r30 : (Int × Bool × Unit) × Int × Unit) =>
        .st a3 [.int .i64 r30.1.1, .bool r30.1.2.1] <|
        .jmp 0 [.int .i64 r4.1, .int .i64 (IntKind.i64.wrap (r4.2.1 + (1 : Int)))]) <|
      .tick <|
      .ld (x0.add 0) .P fun (p31 : Option Addr) =>
      .ld ((x0.add 1).add 0) .I fun (i32 : Int) =>
      .ld ((x0.add 5).add 0) .I fun (i33 : Int) =>
      .calln 40 #[.pointer p31, .int .i64 (IntKind.i64.wrap (IntKind.i64.wrap (i32 + IntKind.i64.wrap ((16 : Int) * i33)) + (14 : Int))), .int .i64 2, .int .u64 (IntKind.u64.wrap r4.1)] .I fun (i34 : Int) =>
      .ld (x0.add 13) .M fun (p35 : Option Nat) =>
      .semU (Go.Instr.mapUpdate (93) (.map p35) (.int .i64 i2) (.int .i64 ((↑x1.n : Int)))) <|
      .ld (x0.add 12) .I fun (i36 : Int) =>
      .st (x0.add 12) [.int .i64 (IntKind.i64.wrap (i36 - (↑x1.n : Int)))] <|
      .ld a3 (.agg [.I, .bool]) fun (r37 : Int × Bool × Unit) =>
      .st (x0.add 5) [.int .i64 r37.1, .bool r37.2.1] <|
      .tick <|
      .ld (x0.add 11) .I fun (i38 : Int) =>
      .ld ((x0.add 1).add 1) .I fun (i39 : Int) =>
      .st (x0.add 11) [.int .i64 (imn (IntKind.i64.wrap (i38 + (↑x1.n : Int))) (IntKind.i64.wrap ((2 : Int) * i39)))] <|
      .ret (.tuple #[.int .i64 i2, .int .i64 0])
def drvq_Queue_Post.T (x0 : Addr) (x1 : Sl) : Tr :=
  .call 37 #[.pointer (some x0), .slice x1.a x1.n x1.c] .I fun (i0 : Int) =>
  .cond (!decide (i0 = (0 : Int))) (
    .ret (.tuple #[.int .i64 0, .int .i64 i0])) <|
  .tick <|
  .ld (x0.add 5) (.agg [.I, .bool]) fun (r1 : Int × Bool × Unit) =>
  .both (
    .calln 38 #[.pointer (some x0)] .I fun (i2 : Int) =>
    .keep [(x0.add 5, [.int .i64 r1.1, .bool r1.2.1])] <|
    .new 42 [.int .i64 0, .bool false] fun (a3 : Addr) =>
    .keep [(x0.add 5, [.int .i64 r1.1, .bool r1.2.1])] <|
    .st a3 [.int .i64 r1.1, .bool r1.2.1] <|
    drvq_Queue_Post.L0 x1 a3 x0 i2) <|
  .new 42 [.int .i64 0, .bool false] fun (a40 : Addr) =>
  .keep [(x0.add 5, [.int .i64 r1.1, .bool r1.2.1])] <|
  .calln 38 #[.pointer (some x0)] .I fun (i41 : Int) =>
  .keep [(x0.add 5, [.int .i64 r1.1, .bool r1.2.1])] <|
  .st a40 [.int .i64 r1.1, .bool r1.2.1] <|
  drvq_Queue_Post.L0 x1 a40 x0 i41
theorem drvq_Queue_Post.eq (x0 : Addr) (x1 : Sl) : trOf Try.prog CC (.seq .o (.seq .o (.seq .o (.seq (.seq .o (.seq (.loop [9, 28] [.sc (.int .i64), .sc (.int .i64)] (.seq .o (.seq .o (.seq (.seq (.seq .o (.seq .o (.join [12] [.sc (.int .i64)] .o (.join [12] [.sc (.int .i64)] .o .o)))) .o) .o)))) .o)) .o)))) Try.f12 [.pointer (some x0), .slice x1.a x1.n x1.c] = drvq_Queue_Post.T x0 x1 := by kernel_rfl
theorem drvq_Queue_Post.calls (x0 : Addr) (x1 : Sl) {R : Ending → World → Prop} {w : World} (h : (drvq_Queue_Post.T x0 x1).wp Try.prog R Conts.none w) : Calls Try.prog 12 #[.pointer (some x0), .slice x1.a x1.n x1.c] w R :=
  calls_of_tr (args := [.pointer (some x0), .slice x1.a x1.n x1.c]) hCC hMO Try.func12 ((drvq_Queue_Post.eq x0 x1).symm ▸ h)

/-- aqueduct/aqueductref11.Same -/
def aqueductref11_Same.T (x0 : Sl) (x1 : Sl) : Tr :=
  .cond (!decide ((↑x0.n : Int) = (↑x1.n : Int))) (
    .ret (.bool false)) <|
  .loop 0 [.I] (((0 : Int), ())) fun (r0 : Int × Unit) =>
    .cond (decide (r0.1 < (↑x0.n : Int))) (
      .tick <|
      .need ((0 : Int) ≤ r0.1 ∧ r0.1 < (↑x0.n : Int)) <|
      .nil x0.a fun (a1 : Addr) =>
      .ld (a1.add (Int.toNat r0.1 * 1)) .I fun (i2 : Int) =>
      .need ((0 : Int) ≤ r0.1 ∧ r0.1 < (↑x1.n : Int)) <|
      .nil x1.a fun (a3 : Addr) =>
      .ld (a3.add (Int.toNat r0.1 * 1)) .I fun (i4 : Int) =>
      .cond (!decide (i2 = i4)) (
        .ret (.bool false)) <|
      .jmp 0 [.int .i64 (IntKind.i64.wrap (r0.1 + (1 : Int)))]) <|
    .ret (.bool true)
theorem aqueductref11_Same.eq (x0 : Sl) (x1 : Sl) : trOf Try.prog CC (.seq .o (.seq .o (.seq (.seq .o (.seq (.loop [5] [.sc (.int .i64)] .o) .o)) .o))) Try.f14 [.slice x0.a x0.n x0.c, .slice x1.a x1.n x1.c] = aqueductref11_Same.T x0 x1 := by kernel_rfl
theorem aqueductref11_Same.calls (x0 : Sl) (x1 : Sl) {R : Ending → World → Prop} {w : World} (h : (aqueductref11_Same.T x0 x1).wp Try.prog R Conts.none w) : Calls Try.prog 14 #[.slice x0.a x0.n x0.c, .slice x1.a x1.n x1.c] w R :=
  calls_of_tr (args := [.slice x0.a x0.n x0.c, .slice x1.a x1.n x1.c]) hCC hMO Try.func14 ((aqueductref11_Same.eq x0 x1).symm ▸ h)

/-- (*aqueduct/drvq.Queue).Reap -/
def drvq_Queue_Reap.T (x0 : Addr) : Tr :=
  .tick <|
  .ld (x0.add 0) .P fun (p0 : Option Addr) =>
  .ld ((x0.add 1).add 0) .I fun (i1 : Int) =>
  .ld ((x0.add 7).add 0) .I fun (i2 : Int) =>
  .calln 42 #[.pointer p0, .int .i64 (IntKind.i64.wrap (i1 + IntKind.i64.wrap ((16 : Int) * i2))), .int .i64 16] (.tup [.S, .I]) fun (r3 : ByteArray × Int × Unit) =>
  .call 43 #[.string r3.1] (.tup [(.agg [.U64, .U32, .I, .I]), .I]) fun (r4 : (Int × Int × Int × Int × Unit) × Int × Unit) =>
  .new 110 [.int .u64 0, .int .u32 0, .int .i64 0, .int .i64 0] fun (a5 : Addr) =>
  .st a5 [.int .u64 r4.1.1, .int .u32 r4.1.2.1, .int .i64 r4.1.2.2.1, .int .i64 r4.1.2.2.2.1] <|
  .tick <|
  .ld (a5.add 3) .I fun (i6 : Int) =>
  .ld ((x0.add 7).add 1) .B fun (b7 : Bool) =>
  .calln 44 #[.int .i64 i6, .bool b7] .B fun (b8 : Bool) =>
  .cond (!b8) (
    .ret (.tuple #[.int .i64 0, .int .i64 0, .bool false, .int .i64 0])) <|
  .tick <|
  .ld (x0.add 13) .M fun (p9 : Option Nat) =>
  .ld (a5.add 2) .I fun (i10 : Int) =>
  .sem (Go.Instr.lookup (93) (.map p9) (.int .i64 i10) true) (.tup [.I, .B]) fun (r11 : Int × Bool × Unit) =>
  .cond (!r11.2.1) (
    .ret (.tuple #[.int .i64 0, .int .i64 0, .bool false, .int .i64 150])) <|
  .tick <|
  .ld (x0.add 13) .M fun (p12 : Option Nat) =>
  .ld (a5.add 2) .I fun (i13 : Int) =>
  .sem (Go.Builtin.delete_ #[93, 3] (0) #[.map p12, .int .i64 i13]) (.tup []) fun (u14 : Unit) =>
  .ld (x0.add 12) .I fun (i15 : Int) =>
  .st (x0.add 12) [.int .i64 (IntKind.i64.wrap (i15 + r11.1))] <|
  .tick <|
  .ld (x0.add 7) (.agg [.I, .bool]) fun (r16 : Int × Bool × Unit) =>
  .ld ((x0.add 1).add 1) .I fun (i17 : Int) =>
  .calln 41 #[.agg #[.int .i64 r16.1, .bool r16.2.1], .int .i64 r11.1, .int .i64 i17] (.tup [(.agg [.I, .bool]), .I]) fun (r18 : (Int × Bool × Unit) × Int × Unit) =>
  .st (x0.add 7) [.int .i64 r18.1.1, .bool r18.1.2.1] <|
  .tick <|
  .ld (a5.add 2) .I fun (i19 : Int) =>
  .ld (a5.add 1) .U32 fun (i20 : Int) =>
  .ret (.tuple #[.int .i64 i19, .int .i64 (IntKind.i64.wrap i20), .bool true, .int .i64 0])
theorem drvq_Queue_Reap.eq (x0 : Addr) : trOf Try.prog CC (.o) Try.f15 [.pointer (some x0)] = drvq_Queue_Reap.T x0 := by kernel_rfl
theorem drvq_Queue_Reap.calls (x0 : Addr) {R : Ending → World → Prop} {w : World} (h : (drvq_Queue_Reap.T x0).wp Try.prog R Conts.none w) : Calls Try.prog 15 #[.pointer (some x0)] w R :=
  calls_of_tr (args := [.pointer (some x0)]) hCC hMO Try.func15 ((drvq_Queue_Reap.eq x0).symm ▸ h)

/-- (*aqueduct/gmem.Memory).Write -/
def gmem_Memory_Write.T (x0 : Addr) (x1 : Int) (x2 : ByteArray) : Tr :=
  .call 45 #[.pointer (some x0), .int .i64 x1, .int .i64 ((↑x2.size : Int))] .B fun (b0 : Bool) =>
  .cond (!b0) (
    .ret (.int .i64 41)) <|
  .call 46 #[.pointer (some x0), .int .i64 x1, .int .i64 ((↑x2.size : Int)), .bool true] (.tup []) fun (u1 : Unit) =>
  .ld (x0.add 0) .L fun (l2 : Sl) =>
  .need ((0 : Int) ≤ x1 ∧ x1 ≤ (↑l2.n : Int)) <|
  .sem (Go.Builtin.copy_ #[85, 9] (3) #[.slice (slB l2.a x1.toNat 1 l2.c) (l2.n - x1.toNat) (l2.c - x1.toNat), .string x2]) .I fun (i3 : Int) =>
  .ret (.int .i64 0)
theorem gmem_Memory_Write.eq (x0 : Addr) (x1 : Int) (x2 : ByteArray) : trOf Try.prog CC (.o) Try.f16 [.pointer (some x0), .int .i64 x1, .string x2] = gmem_Memory_Write.T x0 x1 x2 := by kernel_rfl
theorem gmem_Memory_Write.calls (x0 : Addr) (x1 : Int) (x2 : ByteArray) {R : Ending → World → Prop} {w : World} (h : (gmem_Memory_Write.T x0 x1 x2).wp Try.prog R Conts.none w) : Calls Try.prog 16 #[.pointer (some x0), .int .i64 x1, .string x2] w R :=
  calls_of_tr (args := [.pointer (some x0), .int .i64 x1, .string x2]) hCC hMO Try.func16 ((gmem_Memory_Write.eq x0 x1 x2).symm ▸ h)

/-- (*aqueduct/gmem.Memory).Clone -/
def gmem_Memory_Clone.T (x0 : Addr) : Tr :=
  .tick <|
  .ld (x0.add 0) .L fun (l0 : Sl) =>
  .ld (x0.add 1) .I fun (i1 : Int) =>
  .ld (x0.add 2) .L fun (l2 : Sl) =>
  .calln 49 #[.slice l0.a l0.n l0.c] .L fun (l3 : Sl) =>
  .keep [(x0.add 2, [.slice l2.a l2.n l2.c]), (x0.add 1, [.int .i64 i1])] <|
  .calln 50 #[.slice l2.a l2.n l2.c] .L fun (l4 : Sl) =>
  .keep [(x0.add 1, [.int .i64 i1])] <|
  .new 92 [.slice l3.a l3.n l3.c, .int .i64 i1, .slice l4.a l4.n l4.c] fun (a5 : Addr) =>
  .ret (.pointer (some a5))
theorem gmem_Memory_Clone.eq (x0 : Addr) : trOf Try.prog CC (.o) Try.f19 [.pointer (some x0)] = gmem_Memory_Clone.T x0 := by kernel_rfl
theorem gmem_Memory_Clone.calls (x0 : Addr) {R : Ending → World → Prop} {w : World} (h : (gmem_Memory_Clone.T x0).wp Try.prog R Conts.none w) : Calls Try.prog 19 #[.pointer (some x0)] w R :=
  calls_of_tr (args := [.pointer (some x0)]) hCC hMO Try.func19 ((gmem_Memory_Clone.eq x0).symm ▸ h)

/-- (*aqueduct/drvq.Queue).Clone -/
def drvq_Queue_Clone.T (x0 : Addr) (x1 : Addr) : Tr :=
  .ld x0 (.agg [.ptr, .I, .I, .I, .I, .I, .bool, .I, .bool, .I, .bool, .I, .I, .map]) fun (r0 : Option Addr × Int × Int × Int × Int × Int × Bool × Int × Bool × Int × Bool × Int × Int × Option Nat × Unit) =>
  .new 95 [.pointer none, .int .i64 0, .int .i64 0, .int .i64 0, .int .i64 0, .int .i64 0, .bool false, .int .i64 0, .bool false, .int .i64 0, .bool false, .int .i64 0, .int .i64 0, .map none] fun (a1 : Addr) =>
  .st a1 [.pointer r0.1, .int .i64 r0.2.1, .int .i64 r0.2.2.1, .int .i64 r0.2.2.2.1, .int .i64 r0.2.2.2.2.1, .int .i64 r0.2.2.2.2.2.1, .bool r0.2.2.2.2.2.2.1, .int .i64 r0.2.2.2.2.2.2.2.1, .bool r0.2.2.2.2.2.2.2.2.1, .int .i64 r0.2.2.2.2.2.2.2.2.2.1, .bool r0.2.2.2.2.2.2.2.2.2.2.1, .int .i64 r0.2.2.2.2.2.2.2.2.2.2.2.1, .int .i64 r0.2.2.2.2.2.2.2.2.2.2.2.2.1, .map r0.2.2.2.2.2.2.2.2.2.2.2.2.2.1] <|
  .ld (x0.add 13) .M fun (p2 : Option Nat) =>
  .call 51 #[.map p2] .M fun (p3 : Option Nat) =>
  .st (a1.add 0) [.pointer (some x1)] <|
  .st (a1.add 13) [.map p3] <|
  .ret (.pointer (some a1))
theorem drvq_Queue_Clone.eq (x0 : Addr) (x1 : Addr) : trOf Try.prog CC (.o) Try.f20 [.pointer (some x0), .pointer (some x1)] = drvq_Queue_Clone.T x0 x1 := by kernel_rfl
theorem drvq_Queue_Clone.calls (x0 : Addr) (x1 : Addr) {R : Ending → World → Prop} {w : World} (h : (drvq_Queue_Clone.T x0 x1).wp Try.prog R Conts.none w) : Calls Try.prog 20 #[.pointer (some x0), .pointer (some x1)] w R :=
  calls_of_tr (args := [.pointer (some x0), .pointer (some x1)]) hCC hMO Try.func20 ((drvq_Queue_Clone.eq x0 x1).symm ▸ h)

/-- aqueduct/gmem.New -/
def gmem_New.T (x0 : Int) : Tr :=
  .cond (decide (x0 < (64 : Int))) (
    .ret (.tuple #[.pointer none, .int .i64 40])) <|
  .cond (decide ((1048576 : Int) < x0)) (
    .ret (.tuple #[.pointer none, .int .i64 40])) <|
  .sem (Go.Instr.makeSlice (85) (.int .i64 x0) (.int .i64 x0)) .L fun (l0 : Sl) =>
  .new 92 [.slice l0.a l0.n l0.c, .int .i64 0, .slice none (0) (0)] fun (a1 : Addr) =>
  .ret (.tuple #[.pointer (some a1), .int .i64 0])
theorem gmem_New.eq (x0 : Int) : trOf Try.prog CC (.o) Try.f22 [.int .i64 x0] = gmem_New.T x0 := by kernel_rfl
theorem gmem_New.calls (x0 : Int) {R : Ending → World → Prop} {w : World} (h : (gmem_New.T x0).wp Try.prog R Conts.none w) : Calls Try.prog 22 #[.int .i64 x0] w R :=
  calls_of_tr (args := [.int .i64 x0]) hCC hMO Try.func22 ((gmem_New.eq x0).symm ▸ h)

/-- aqueduct/drvq.New -/
def drvq_New.T (x0 : Addr) (x1 : Int × Int × Int × Int × PUnit) : Tr :=
  .new 23 [.int .i64 x1.1, .int .i64 x1.2.1, .int .i64 x1.2.2.1, .int .i64 x1.2.2.2.1] fun (a0 : Addr) =>
  .ld a0 (.agg [.I, .I, .I, .I]) fun (r1 : Int × Int × Int × Int × Unit) =>
  .call 52 #[.pointer (some x0), .agg #[.int .i64 r1.1, .int .i64 r1.2.1, .int .i64 r1.2.2.1, .int .i64 r1.2.2.2.1]] .I fun (i2 : Int) =>
  .cond (!decide (i2 = (0 : Int))) (
    .ret (.tuple #[.pointer none, .int .i64 i2])) <|
  .tick <|
  .ld (a0.add 0) .I fun (i3 : Int) =>
  .ld (a0.add 1) .I fun (i4 : Int) =>
  .calln 53 #[.string (ByteArray.mk #[(0 : UInt8)]), .int .i64 (IntKind.i64.wrap ((16 : Int) * i4))] .S fun (s5 : ByteArray) =>
  .keep [(a0.add 0, [.int .i64 i3])] <|
  .calln 16 #[.pointer (some x0), .int .i64 i3, .string s5] .I fun (i6 : Int) =>
  .tick <|
  .ld (a0.add 2) .I fun (i7 : Int) =>
  .calln 53 #[.string (ByteArray.mk #[(0 : UInt8)]), .int .i64 4] .S fun (s8 : ByteArray) =>
  .keep [(a0.add 2, [.int .i64 i7])] <|
  .calln 16 #[.pointer (some x0), .int .i64 i7, .string s8] .I fun (i9 : Int) =>
  .tick <|
  .ld (a0.add 3) .I fun (i10 : Int) =>
  .calln 53 #[.string (ByteArray.mk #[(0 : UInt8)]), .int .i64 4] .S fun (s11 : ByteArray) =>
  .keep [(a0.add 3, [.int .i64 i10])] <|
  .calln 16 #[.pointer (some x0), .int .i64 i10, .string s11] .I fun (i12 : Int) =>
  .new 42 [.int .i64 0, .bool false] fun (a13 : Addr) =>
  .st a13 [.int .i64 0, .bool true] <|
  .ld a0 (.agg [.I, .I, .I, .I]) fun (r14 : Int × Int × Int × Int × Unit) =>
  .ld a13 (.agg [.I, .bool]) fun (r15 : Int × Bool × Unit) =>
  .ld a13 (.agg [.I, .bool]) fun (r16 : Int × Bool × Unit) =>
  .ld a13 (.agg [.I, .bool]) fun (r17 : Int × Bool × Unit) =>
  .ld (a0.add 1) .I fun (i18 : Int) =>
  .sem (Go.Instr.makeMap (93) none) .M fun (p19 : Option Nat) =>
  .new 95 [.pointer (some x0), .int .i64 r14.1, .int .i64 r14.2.1, .int .i64 r14.2.2.1, .int .i64 r14.2.2.2.1, .int .i64 r15.1, .bool r15.2.1, .int .i64 r16.1, .bool r16.2.1, .int .i64 r17.1, .bool r17.2.1, .int .i64 0, .int .i64 i18, .map p19] fun (a20 : Addr) =>
  .ret (.tuple #[.pointer (some a20), .int .i64 0])
theorem drvq_New.eq (x0 : Addr) (x1 : Int × Int × Int × Int × PUnit) : trOf Try.prog CC (.o) Try.f23 [.pointer (some x0), .agg #[.int .i64 x1.fst, .int .i64 x1.snd.fst, .int .i64 x1.snd.snd.fst, .int .i64 x1.snd.snd.snd.fst]] = drvq_New.T x0 x1 := by kernel_rfl
theorem drvq_New.calls (x0 : Addr) (x1 : Int × Int × Int × Int × PUnit) {R : Ending → World → Prop} {w : World} (h : (drvq_New.T x0 x1).wp Try.prog R Conts.none w) : Calls Try.prog 23 #[.pointer (some x0), .agg #[.int .i64 x1.fst, .int .i64 x1.snd.fst, .int .i64 x1.snd.snd.fst, .int .i64 x1.snd.snd.snd.fst]] w R :=
  calls_of_tr (args := [.pointer (some x0), .agg #[.int .i64 x1.fst, .int .i64 x1.snd.fst, .int .i64 x1.snd.snd.fst, .int .i64 x1.snd.snd.snd.fst]]) hCC hMO Try.func23 ((drvq_New.eq x0 x1).symm ▸ h)

/-- aqueduct/devq.New -/
def devq_New.T (x0 : Addr) (x1 : Int × Int × Int × Int × PUnit) : Tr :=
  .new 23 [.int .i64 x1.1, .int .i64 x1.2.1, .int .i64 x1.2.2.1, .int .i64 x1.2.2.2.1] fun (a0 : Addr) =>
  .ld a0 (.agg [.I, .I, .I, .I]) fun (r1 : Int × Int × Int × Int × Unit) =>
  .call 52 #[.pointer (some x0), .agg #[.int .i64 r1.1, .int .i64 r1.2.1, .int .i64 r1.2.2.1, .int .i64 r1.2.2.2.1]] .I fun (i2 : Int) =>
  .cond (!decide (i2 = (0 : Int))) (
    .ret (.tuple #[.pointer none, .int .i64 i2])) <|
  .new 42 [.int .i64 0, .bool false] fun (a3 : Addr) =>
  .st a3 [.int .i64 0, .bool true] <|
  .ld a0 (.agg [.I, .I, .I, .I]) fun (r4 : Int × Int × Int × Int × Unit) =>
  .ld a3 (.agg [.I, .bool]) fun (r5 : Int × Bool × Unit) =>
  .ld a3 (.agg [.I, .bool]) fun (r6 : Int × Bool × Unit) =>
  .ld a3 (.agg [.I, .bool]) fun (r7 : Int × Bool × Unit) =>
  .new 126 [.pointer (some x0), .int .i64 r4.1, .int .i64 r4.2.1, .int .i64 r4.2.2.1, .int .i64 r4.2.2.2.1, .int .i64 r5.1, .bool r5.2.1, .int .i64 r6.1, .bool r6.2.1, .int .i64 r7.1, .bool r7.2.1, .int .i64 0, .int .i64 0, .bool false] fun (a8 : Addr) =>
  .ret (.tuple #[.pointer (some a8), .int .i64 0])
theorem devq_New.eq (x0 : Addr) (x1 : Int × Int × Int × Int × PUnit) : trOf Try.prog CC (.o) Try.f24 [.pointer (some x0), .agg #[.int .i64 x1.fst, .int .i64 x1.snd.fst, .int .i64 x1.snd.snd.fst, .int .i64 x1.snd.snd.snd.fst]] = devq_New.T x0 x1 := by kernel_rfl
theorem devq_New.calls (x0 : Addr) (x1 : Int × Int × Int × Int × PUnit) {R : Ending → World → Prop} {w : World} (h : (devq_New.T x0 x1).wp Try.prog R Conts.none w) : Calls Try.prog 24 #[.pointer (some x0), .agg #[.int .i64 x1.fst, .int .i64 x1.snd.fst, .int .i64 x1.snd.snd.fst, .int .i64 x1.snd.snd.snd.fst]] w R :=
  calls_of_tr (args := [.pointer (some x0), .agg #[.int .i64 x1.fst, .int .i64 x1.snd.fst, .int .i64 x1.snd.snd.fst, .int .i64 x1.snd.snd.snd.fst]]) hCC hMO Try.func24 ((devq_New.eq x0 x1).symm ▸ h)

/-- aqueduct/aqueductref14.Same -/
def aqueductref14_Same.T (x0 : Int × Int × Sl × PUnit) (x1 : Int × Int × Sl × PUnit) : Tr :=
  .new 74 [.int .i64 x0.1, .int .i64 x0.2.1, .slice x0.2.2.1.a x0.2.2.1.n x0.2.2.1.c] fun (a0 : Addr) =>
  .new 74 [.int .i64 x1.1, .int .i64 x1.2.1, .slice x1.2.2.1.a x1.2.2.1.n x1.2.2.1.c] fun (a1 : Addr) =>
  .ld (a0.add 0) .I fun (i2 : Int) =>
  .ld (a1.add 0) .I fun (i3 : Int) =>
  .cond (!decide (i2 = i3)) (
    .ret (.bool false)) <|
  .ld (a0.add 1) .I fun (i4 : Int) =>
  .ld (a1.add 1) .I fun (i5 : Int) =>
  .cond (!decide (i4 = i5)) (
    .ret (.bool false)) <|
  .ld (a0.add 2) .L fun (l6 : Sl) =>
  .ld (a1.add 2) .L fun (l7 : Sl) =>
  .cond (!decide ((↑l6.n : Int) = (↑l7.n : Int))) (
    .ret (.bool false)) <|
  .loop 0 [.I] (((0 : Int), ())) fun (r8 : Int × Unit) =>
    .ld (a0.add 2) .L fun (l9 : Sl) =>
    .cond (decide (r8.1 < (↑l9.n : Int))) (
      .tick <|
      .ld (a0.add 2) .L fun (l10 : Sl) =>
      .need ((0 : Int) ≤ r8.1 ∧ r8.1 < (↑l10.n : Int)) <|
      .nil l10.a fun (a11 : Addr) =>
      .ld (a11.add (Int.toNat r8.1 * 3)) (.agg [.I, .I, .bool]) fun (r12 : Int × Int × Bool × Unit) =>
      .ld (a1.add 2) .L fun (l13 : Sl) =>
      .need ((0 : Int) ≤ r8.1 ∧ r8.1 < (↑l13.n : Int)) <|
      .nil l13.a fun (a14 : Addr) =>
      .ld (a14.add (Int.toNat r8.1 * 3)) (.agg [.I, .I, .bool]) fun (r15 : Int × Int × Bool × Unit) =>
      .sem (eqSem BinOp.neq (56) (Operand.tmp 38) (Operand.tmp 43) (.agg #[.int .i64 r12.1, .int .i64 r12.2.1, .bool r12.2.2.1]) (.agg #[.int .i64 r15.1, .int .i64 r15.2.1, .bool r15.2.2.1])) .B fun (b16 : Bool) =>
      .cond b16 (
        .ret (.bool false)) <|
      .jmp 0 [.int .i64 (IntKind.i64.wrap (r8.1 + (1 : Int)))]) <|
    .ret (.bool true)
theorem aqueductref14_Same.eq (x0 : Int × Int × Sl × PUnit) (x1 : Int × Int × Sl × PUnit) : trOf Try.prog CC (.seq .o (.seq .o (.seq (.seq .o (.seq (.loop [5] [.sc (.int .i64)] .o) .o)) .o))) Try.f27 [.agg #[.int .i64 x0.fst, .int .i64 x0.snd.fst, .slice x0.snd.snd.fst.a x0.snd.snd.fst.n x0.snd.snd.fst.c], .agg #[.int .i64 x1.fst, .int .i64 x1.snd.fst, .slice x1.snd.snd.fst.a x1.snd.snd.fst.n x1.snd.snd.fst.c]] = aqueductref14_Same.T x0 x1 := by kernel_rfl
theorem aqueductref14_Same.calls (x0 : Int × Int × Sl × PUnit) (x1 : Int × Int × Sl × PUnit) {R : Ending → World → Prop} {w : World} (h : (aqueductref14_Same.T x0 x1).wp Try.prog R Conts.none w) : Calls Try.prog 27 #[.agg #[.int .i64 x0.fst, .int .i64 x0.snd.fst, .slice x0.snd.snd.fst.a x0.snd.snd.fst.n x0.snd.snd.fst.c], .agg #[.int .i64 x1.fst, .int .i64 x1.snd.fst, .slice x1.snd.snd.fst.a x1.snd.snd.fst.n x1.snd.snd.fst.c]] w R :=
  calls_of_tr (args := [.agg #[.int .i64 x0.fst, .int .i64 x0.snd.fst, .slice x0.snd.snd.fst.a x0.snd.snd.fst.n x0.snd.snd.fst.c], .agg #[.int .i64 x1.fst, .int .i64 x1.snd.fst, .slice x1.snd.snd.fst.a x1.snd.snd.fst.n x1.snd.snd.fst.c]]) hCC hMO Try.func27 ((aqueductref14_Same.eq x0 x1).symm ▸ h)

/-- (*aqueduct/devq.Queue).Done -/
def devq_Queue_Done.T (x0 : Addr) (x1 : Int) (x2 : Int) (x3 : Int) : Tr :=
  .ld (x0.add 13) .B fun (b0 : Bool) =>
  .cond b0 (
    .ret (.int .i64 141)) <|
  .cond (decide (x1 < (0 : Int))) (
    .ret (.int .i64 1)) <|
  .cond (decide ((65535 : Int) < x1)) (
    .ret (.int .i64 1)) <|
  .cond (decide (x2 < (1 : Int))) (
    .ret (.int .i64 1)) <|
  .ld (x0.add 12) .I fun (i1 : Int) =>
  .cond (decide (i1 < x2)) (
    .ret (.int .i64 1)) <|
  .cond (decide (x3 < (0 : Int))) (
    .ret (.int .i64 1)) <|
  .cond (decide ((4294967295 : Int) < x3)) (
    .ret (.int .i64 1)) <|
  .tick <|
  .ld ((x0.add 1).add 0) .I fun (i2 : Int) =>
  .ld ((x0.add 7).add 0) .I fun (i3 : Int) =>
  .bind 0 [.I] (
    .cond (decide ((0 : Int) < x3)) (
      .jmp 0 [.int .i64 2]) <|
    .jmp 0 [.int .i64 0]) fun (r4 : Int × Unit) =>
  .ld (x0.add 0) .P fun (p5 : Option Addr) =>
  .call 40 #[.pointer p5, .int .i64 (IntKind.i64.wrap (IntKind.i64.wrap (i2 + IntKind.i64.wrap ((16 : Int) * i3)) + (8 : Int))), .int .i64 4, .int .u64 (IntKind.u64.wrap x3)] .I fun (i6 : Int) =>
  .ld (x0.add 0) .P fun (p7 : Option Addr) =>
  .call 40 #[.pointer p7, .int .i64 (IntKind.i64.wrap (IntKind.i64.wrap (i2 + IntKind.i64.wrap ((16 : Int) * i3)) + (12 : Int))), .int .i64 2, .int .u64 (IntKind.u64.wrap x1)] .I fun (i8 : Int) =>
  .tick <|
  .ld (x0.add 0) .P fun (p9 : Option Addr) =>
  .ld ((x0.add 7).add 1) .B fun (b10 : Bool) =>
  .calln 39 #[.int .i64 r4.1, .bool b10, .bool true] .I fun (i11 : Int) =>
  .keep [(x0.add 0, [.pointer p9])] <|
  .calln 40 #[.pointer p9, .int .i64 (IntKind.i64.wrap (IntKind.i64.wrap (i2 + IntKind.i64.wrap ((16 : Int) * i3)) + (14 : Int))), .int .i64 2, .int .u64 (IntKind.u64.wrap i11)] .I fun (i12 : Int) =>
  .tick <|
  .ld (x0.add 7) (.agg [.I, .bool]) fun (r13 : Int × Bool × Unit) =>
  .ld ((x0.add 1).add 1) .I fun (i14 : Int) =>
  .calln 41 #[.agg #[.int .i64 r13.1, .bool r13.2.1], .int .i64 x2, .int .i64 i14] (.tup [(.agg [.I, .bool]), .I]) fun (r15 : (Int × Bool × Unit) × Int × Unit) =>
  .st (x0.add 7) [.int .i64 r15.1.1, .bool r15.1.2.1] <|
  .ld (x0.add 12) .I fun (i16 : Int) =>
  .st (x0.add 12) [.int .i64 (IntKind.i64.wrap (i16 - x2))] <|
  .tick <|
  .ld (x0.add 11) .I fun (i17 : Int) =>
  .ld ((x0.add 1).add 1) .I fun (i18 : Int) =>
  .st (x0.add 11) [.int .i64 (imn (IntKind.i64.wrap (i17 + x2)) (IntKind.i64.wrap ((2 : Int) * i18)))] <|
  .ret (.int .i64 0)
theorem devq_Queue_Done.eq (x0 : Addr) (x1 : Int) (x2 : Int) (x3 : Int) : trOf Try.prog CC (.seq .o (.seq .o (.seq .o (.seq .o (.join [10] [.sc (.int .i64)] .o .o))))) Try.f28 [.pointer (some x0), .int .i64 x1, .int .i64 x2, .int .i64 x3] = devq_Queue_Done.T x0 x1 x2 x3 := by kernel_rfl
theorem devq_Queue_Done.calls (x0 : Addr) (x1 : Int) (x2 : Int) (x3 : Int) {R : Ending → World → Prop} {w : World} (h : (devq_Queue_Done.T x0 x1 x2 x3).wp Try.prog R Conts.none w) : Calls Try.prog 28 #[.pointer (some x0), .int .i64 x1, .int .i64 x2, .int .i64 x3] w R :=
  calls_of_tr (args := [.pointer (some x0), .int .i64 x1, .int .i64 x2, .int .i64 x3]) hCC hMO Try.func28 ((devq_Queue_Done.eq x0 x1 x2 x3).symm ▸ h)

/-- (*aqueduct/devq.Queue).Broken -/
def devq_Queue_Broken.T (x0 : Addr) : Tr :=
  .ld (x0.add 13) .B fun (b0 : Bool) =>
  .ret (.bool b0)
theorem devq_Queue_Broken.eq (x0 : Addr) : trOf Try.prog CC (.o) Try.f30 [.pointer (some x0)] = devq_Queue_Broken.T x0 := by kernel_rfl
theorem devq_Queue_Broken.calls (x0 : Addr) {R : Ending → World → Prop} {w : World} (h : (devq_Queue_Broken.T x0).wp Try.prog R Conts.none w) : Calls Try.prog 30 #[.pointer (some x0)] w R :=
  calls_of_tr (args := [.pointer (some x0)]) hCC hMO Try.func30 ((devq_Queue_Broken.eq x0).symm ▸ h)

/-- aqueduct/aqueductref04.New -/
def aqueductref04_New.T (x0 : Int) : Tr :=
  .cond (decide (x0 < (64 : Int))) (
    .ret (.tuple #[.pointer none, .int .i64 40])) <|
  .cond (decide ((1048576 : Int) < x0)) (
    .ret (.tuple #[.pointer none, .int .i64 40])) <|
  .sem (Go.Instr.makeSlice (85) (.int .i64 x0) (.int .i64 x0)) .L fun (l0 : Sl) =>
  .sem (Go.convert (85) (9) (.slice l0.a l0.n l0.c)) .S fun (s1 : ByteArray) =>
  .new 90 [.string s1, .int .i64 0, .slice none (0) (0)] fun (a2 : Addr) =>
  .ret (.tuple #[.pointer (some a2), .int .i64 0])
theorem aqueductref04_New.eq (x0 : Int) : trOf Try.prog CC (.o) Try.f32 [.int .i64 x0] = aqueductref04_New.T x0 := by kernel_rfl
theorem aqueductref04_New.calls (x0 : Int) {R : Ending → World → Prop} {w : World} (h : (aqueductref04_New.T x0).wp Try.prog R Conts.none w) : Calls Try.prog 32 #[.int .i64 x0] w R :=
  calls_of_tr (args := [.int .i64 x0]) hCC hMO Try.func32 ((aqueductref04_New.eq x0).symm ▸ h)

/-- (*aqueduct/aqueductref04.Memory).Write -/
def aqueductref04_Memory_Write.T (x0 : Addr) (x1 : Int) (x2 : ByteArray) : Tr :=
  .call 59 #[.pointer (some x0), .int .i64 x1, .int .i64 ((↑x2.size : Int))] .B fun (b0 : Bool) =>
  .cond (!b0) (
    .ret (.int .i64 41)) <|
  .call 60 #[.pointer (some x0), .int .i64 x1, .int .i64 ((↑x2.size : Int)), .bool true] (.tup []) fun (u1 : Unit) =>
  .tick <|
  .ld (x0.add 0) .S fun (s2 : ByteArray) =>
  .need ((0 : Int) ≤ x1 ∧ x1 ≤ (↑s2.size : Int)) <|
  .need ((s2.extract 0 x1.toNat).size + x2.size ≤ 9223372036854775807) <|
  .ld (x0.add 0) .S fun (s3 : ByteArray) =>
  .need ((0 : Int) ≤ IntKind.i64.wrap (x1 + (↑x2.size : Int)) ∧ IntKind.i64.wrap (x1 + (↑x2.size : Int)) ≤ (↑s3.size : Int)) <|
  .need ((s2.extract 0 x1.toNat ++ x2).size + (s3.extract (IntKind.i64.wrap (x1 + (↑x2.size : Int))).toNat s3.size).size ≤ 9223372036854775807) <|
  .st (x0.add 0) [.string (s2.extract 0 x1.toNat ++ x2 ++ s3.extract (IntKind.i64.wrap (x1 + (↑x2.size : Int))).toNat s3.size)] <|
  .ret (.int .i64 0)
theorem aqueductref04_Memory_Write.eq (x0 : Addr) (x1 : Int) (x2 : ByteArray) : trOf Try.prog CC (.o) Try.f33 [.pointer (some x0), .int .i64 x1, .string x2] = aqueductref04_Memory_Write.T x0 x1 x2 := by kernel_rfl
theorem aqueductref04_Memory_Write.calls (x0 : Addr) (x1 : Int) (x2 : ByteArray) {R : Ending → World → Prop} {w : World} (h : (aqueductref04_Memory_Write.T x0 x1 x2).wp Try.prog R Conts.none w) : Calls Try.prog 33 #[.pointer (some x0), .int .i64 x1, .string x2] w R :=
  calls_of_tr (args := [.pointer (some x0), .int .i64 x1, .string x2]) hCC hMO Try.func33 ((aqueductref04_Memory_Write.eq x0 x1 x2).symm ▸ h)

/-- aqueduct/aqueductref15.New -/
def aqueductref15_New.T (x0 : Addr) (x1 : Int × Int × Int × Int × PUnit) : Tr :=
  .new 23 [.int .i64 x1.1, .int .i64 x1.2.1, .int .i64 x1.2.2.1, .int .i64 x1.2.2.2.1] fun (a0 : Addr) =>
  .ld a0 (.agg [.I, .I, .I, .I]) fun (r1 : Int × Int × Int × Int × Unit) =>
  .call 61 #[.pointer (some x0), .agg #[.int .i64 r1.1, .int .i64 r1.2.1, .int .i64 r1.2.2.1, .int .i64 r1.2.2.2.1]] .I fun (i2 : Int) =>
  .cond (!decide (i2 = (0 : Int))) (
    .ret (.tuple #[.pointer none, .int .i64 i2])) <|
  .tick <|
  .ld (a0.add 0) .I fun (i3 : Int) =>
  .ld (a0.add 1) .I fun (i4 : Int) =>
  .sem (Go.Instr.makeSlice (85) (.int .i64 (IntKind.i64.wrap ((16 : Int) * i4))) (.int .i64 (IntKind.i64.wrap ((16 : Int) * i4)))) .L fun (l5 : Sl) =>
  .keep [(a0.add 0, [.int .i64 i3])] <|
  .sem (Go.convert (85) (9) (.slice l5.a l5.n l5.c)) .S fun (s6 : ByteArray) =>
  .keep [(a0.add 0, [.int .i64 i3])] <|
  .calln 33 #[.pointer (some x0), .int .i64 i3, .string s6] .I fun (i7 : Int) =>
  .tick <|
  .ld (a0.add 2) .I fun (i8 : Int) =>
  .sem (Go.Instr.makeSlice (85) (.int .i64 4) (.int .i64 4)) .L fun (l9 : Sl) =>
  .keep [(a0.add 2, [.int .i64 i8])] <|
  .sem (Go.convert (85) (9) (.slice l9.a l9.n l9.c)) .S fun (s10 : ByteArray) =>
  .keep [(a0.add 2, [.int .i64 i8])] <|
  .calln 33 #[.pointer (some x0), .int .i64 i8, .string s10] .I fun (i11 : Int) =>
  .tick <|
  .ld (a0.add 3) .I fun (i12 : Int) =>
  .sem (Go.Instr.makeSlice (85) (.int .i64 4) (.int .i64 4)) .L fun (l13 : Sl) =>
  .keep [(a0.add 3, [.int .i64 i12])] <|
  .sem (Go.convert (85) (9) (.slice l13.a l13.n l13.c)) .S fun (s14 : ByteArray) =>
  .keep [(a0.add 3, [.int .i64 i12])] <|
  .calln 33 #[.pointer (some x0), .int .i64 i12, .string s14] .I fun (i15 : Int) =>
  .new 42 [.int .i64 0, .bool false] fun (a16 : Addr) =>
  .st a16 [.int .i64 0, .bool true] <|
  .tick <|
  .ld a0 (.agg [.I, .I, .I, .I]) fun (r17 : Int × Int × Int × Int × Unit) =>
  .ld a16 (.agg [.I, .bool]) fun (r18 : Int × Bool × Unit) =>
  .ld a16 (.agg [.I, .bool]) fun (r19 : Int × Bool × Unit) =>
  .ld a16 (.agg [.I, .bool]) fun (r20 : Int × Bool × Unit) =>
  .ld (a0.add 1) .I fun (i21 : Int) =>
  .sem (Go.Instr.makeSlice (39) (.int .i64 i21) (.int .i64 i21)) .L fun (l22 : Sl) =>
  .keep [(a16, [.int .i64 r20.1, .bool r20.2.1]), (a16, [.int .i64 r19.1, .bool r19.2.1]), (a16, [.int .i64 r18.1, .bool r18.2.1]), (a0, [.int .i64 r17.1, .int .i64 r17.2.1, .int .i64 r17.2.2.1, .int .i64 r17.2.2.2.1])] <|
  .new 133 [.pointer (some x0), .int .i64 r17.1, .int .i64 r17.2.1, .int .i64 r17.2.2.1, .int .i64 r17.2.2.2.1, .int .i64 r18.1, .bool r18.2.1, .int .i64 r19.1, .bool r19.2.1, .int .i64 r20.1, .bool r20.2.1, .int .i64 0, .slice l22.a l22.n l22.c] fun (a23 : Addr) =>
  .ret (.tuple #[.pointer (some a23), .int .i64 0])
theorem aqueductref15_New.eq (x0 : Addr) (x1 : Int × Int × Int × Int × PUnit) : trOf Try.prog CC (.o) Try.f34 [.pointer (some x0), .agg #[.int .i64 x1.fst, .int .i64 x1.snd.fst, .int .i64 x1.snd.snd.fst, .int .i64 x1.snd.snd.snd.fst]] = aqueductref15_New.T x0 x1 := by kernel_rfl
theorem aqueductref15_New.calls (x0 : Addr) (x1 : Int × Int × Int × Int × PUnit) {R : Ending → World → Prop} {w : World} (h : (aqueductref15_New.T x0 x1).wp Try.prog R Conts.none w) : Calls Try.prog 34 #[.pointer (some x0), .agg #[.int .i64 x1.fst, .int .i64 x1.snd.fst, .int .i64 x1.snd.snd.fst, .int .i64 x1.snd.snd.snd.fst]] w R :=
  calls_of_tr (args := [.pointer (some x0), .agg #[.int .i64 x1.fst, .int .i64 x1.snd.fst, .int .i64 x1.snd.snd.fst, .int .i64 x1.snd.snd.snd.fst]]) hCC hMO Try.func34 ((aqueductref15_New.eq x0 x1).symm ▸ h)

/-- slices.Sorted[int] -/
def slices_Sorted_int.T (x0 : Value) : Tr :=
  .call 62 #[x0] .L fun (l0 : Sl) =>
  .call 63 #[.slice l0.a l0.n l0.c] (.tup []) fun (u1 : Unit) =>
  .ret (.slice l0.a l0.n l0.c)
theorem slices_Sorted_int.eq (x0 : Value) : trOf Try.prog CC (.o) Try.f35 [x0] = slices_Sorted_int.T x0 := by kernel_rfl
theorem slices_Sorted_int.calls (x0 : Value) {R : Ending → World → Prop} {w : World} (h : (slices_Sorted_int.T x0).wp Try.prog R Conts.none w) : Calls Try.prog 35 #[x0] w R :=
  calls_of_tr (args := [x0]) hCC hMO Try.func35 ((slices_Sorted_int.eq x0).symm ▸ h)

/-- maps.Keys[map[int]int,int,int] -/
def maps_Keys_mapintintintint.T (x0 : Option Nat) : Tr :=
  .new 93 [.map x0] fun (a0 : Addr) =>
  .ret (.func (Fn.func 64) #[] #[.pointer (some a0)])
theorem maps_Keys_mapintintintint.eq (x0 : Option Nat) : trOf Try.prog CC (.o) Try.f36 [.map x0] = maps_Keys_mapintintintint.T x0 := by kernel_rfl
theorem maps_Keys_mapintintintint.calls (x0 : Option Nat) {R : Ending → World → Prop} {w : World} (h : (maps_Keys_mapintintintint.T x0).wp Try.prog R Conts.none w) : Calls Try.prog 36 #[.map x0] w R :=
  calls_of_tr (args := [.map x0]) hCC hMO Try.func36 ((maps_Keys_mapintintintint.eq x0).symm ▸ h)

/-- (*aqueduct/drvq.Queue).may -/
def drvq_Queue_may.T (x0 : Addr) (x1 : Sl) : Tr :=
  .cond (decide ((↑x1.n : Int) = (0 : Int))) (
    .ret (.int .i64 150)) <|
  .cond (decide ((64 : Int) < (↑x1.n : Int))) (
    .ret (.int .i64 150)) <|
  .loop 0 [.I] (((0 : Int), ())) fun (r0 : Int × Unit) =>
    .cond (decide (r0.1 < (↑x1.n : Int))) (
      .need ((0 : Int) ≤ r0.1 ∧ r0.1 < (↑x1.n : Int)) <|
      .nil x1.a fun (a1 : Addr) =>
      .ld (a1.add (Int.toNat r0.1 * 3)) (.agg [.I, .I, .bool]) fun (r2 : Int × Int × Bool × Unit) =>
      .new 56 [.int .i64 0, .int .i64 0, .bool false] fun (a3 : Addr) =>
      .st a3 [.int .i64 r2.1, .int .i64 r2.2.1, .bool r2.2.2.1] <|
      .tick <|
      .ld (a3.add 1) .I fun (i4 : Int) =>
      .cond (decide (i4 < (1 : Int))) (
        .ret (.int .i64 150)) <|
      .ld (x0.add 0) .P fun (p5 : Option Addr) =>
      .ld (a3.add 0) .I fun (i6 : Int) =>
      .ld (a3.add 1) .I fun (i7 : Int) =>
      .calln 45 #[.pointer p5, .int .i64 i6, .int .i64 i7] .B fun (b8 : Bool) =>
      .cond (!b8) (
        .ret (.int .i64 150)) <|
      .cond (decide ((0 : Int) < r0.1)) (
        .need ((0 : Int) ≤ IntKind.i64.wrap (r0.1 - (1 : Int)) ∧ IntKind.i64.wrap (r0.1 - (1 : Int)) < (↑x1.n : Int)) <|
        .nil x1.a fun (a9 : Addr) =>
        .ld ((a9.add ((IntKind.i64.wrap (r0.1 - (1 : Int))).toNat * 3)).add 2) .B fun (b10 : Bool) =>
        .cond b10 (
          .ld (a3.add 2) .B fun (b11 : Bool) =>
          .cond (!b11) (
            .ret (.int .i64 150)) <|
          .jmp 0 [.int .i64 (IntKind.i64.wrap (r0.1 + (1 : Int)))]) <|
        .jmp 0 [.int .i64 (IntKind.i64.wrap (r0.1 + (1 : Int)))]) <|
      .jmp 0 [.int .i64 (IntKind.i64.wrap (r0.1 + (1 : Int)))]) <|
    .ld (x0.add 12) .I fun (i12 : Int) =>
    .cond (decide (i12 < (↑x1.n : Int))) (
      .ret (.int .i64 151)) <|
    .ret (.int .i64 0)
theorem drvq_Queue_may.eq (x0 : Addr) (x1 : Sl) : trOf Try.prog CC (.seq .o (.seq .o (.seq (.seq .o (.seq (.loop [17] [.sc (.int .i64)] .o) .o)) .o))) Try.f37 [.pointer (some x0), .slice x1.a x1.n x1.c] = drvq_Queue_may.T x0 x1 := by kernel_rfl
theorem drvq_Queue_may.calls (x0 : Addr) (x1 : Sl) {R : Ending → World → Prop} {w : World} (h : (drvq_Queue_may.T x0 x1).wp Try.prog R Conts.none w) : Calls Try.prog 37 #[.pointer (some x0), .slice x1.a x1.n x1.c] w R :=
  calls_of_tr (args := [.pointer (some x0), .slice x1.a x1.n x1.c]) hCC hMO Try.func37 ((drvq_Queue_may.eq x0 x1).symm ▸ h)

/-- (*aqueduct/drvq.Queue).id -/
def drvq_Queue_id.T (x0 : Addr) : Tr :=
  .loop 0 [.I] (((0 : Int), ())) fun (r0 : Int × Unit) =>
    .ld (x0.add 13) .M fun (p1 : Option Nat) =>
    .sem (Go.Instr.lookup (93) (.map p1) (.int .i64 r0.1) true) (.tup [.I, .B]) fun (r2 : Int × Bool × Unit) =>
    .cond (!r2.2.1) (
      .ret (.int .i64 r0.1)) <|
    .jmp 0 [.int .i64 (IntKind.i64.wrap (r0.1 + (1 : Int)))]
theorem drvq_Queue_id.eq (x0 : Addr) : trOf Try.prog CC (.seq .o (.seq .o (.seq (.loop [3] [.sc (.int .i64)] .o) .o))) Try.f38 [.pointer (some x0)] = drvq_Queue_id.T x0 := by kernel_rfl
theorem drvq_Queue_id.calls (x0 : Addr) {R : Ending → World → Prop} {w : World} (h : (drvq_Queue_id.T x0).wp Try.prog R Conts.none w) : Calls Try.prog 38 #[.pointer (some x0)] w R :=
  calls_of_tr (args := [.pointer (some x0)]) hCC hMO Try.func38 ((drvq_Queue_id.eq x0).symm ▸ h)

/-- aqueduct/desc.Mark -/
def desc_Mark.T (x0 : Int) (x1 : Bool) (x2 : Bool) : Tr :=
  .bind 0 [.I] (
    .cond x1 (
      .jmp 0 [.int .i64 (bor IntKind.i64 (bandn IntKind.i64 x0 (32896 : Int)) (128 : Int))]) <|
    .jmp 0 [.int .i64 (bandn IntKind.i64 x0 (32896 : Int))]) fun (r0 : Int × Unit) =>
  .cond (x1 == x2) (
    .ret (.int .i64 (bor IntKind.i64 r0.1 (32768 : Int)))) <|
  .ret (.int .i64 r0.1)
theorem desc_Mark.eq (x0 : Int) (x1 : Bool) (x2 : Bool) : trOf Try.prog CC (.seq .o (.seq .o (.join [0] [.sc (.int .i64)] .o .o))) Try.f39 [.int .i64 x0, .bool x1, .bool x2] = desc_Mark.T x0 x1 x2 := by kernel_rfl
theorem desc_Mark.calls (x0 : Int) (x1 : Bool) (x2 : Bool) {R : Ending → World → Prop} {w : World} (h : (desc_Mark.T x0 x1 x2).wp Try.prog R Conts.none w) : Calls Try.prog 39 #[.int .i64 x0, .bool x1, .bool x2] w R :=
  calls_of_tr (args := [.int .i64 x0, .bool x1, .bool x2]) hCC hMO Try.func39 ((desc_Mark.eq x0 x1 x2).symm ▸ h)

/-- (*aqueduct/gmem.Memory).Store -/
def gmem_Memory_Store.T (x0 : Addr) (x1 : Int) (x2 : Int) (x3 : Int) : Tr :=
  .call 65 #[.int .i64 x2] .B fun (b0 : Bool) =>
  .cond (!b0) (
    .ret (.int .i64 1)) <|
  .call 66 #[.int .u64 x3, .int .i64 x2, .bool false] (.tup [.S, .I]) fun (r1 : ByteArray × Int × Unit) =>
  .cond (!decide (r1.2.1 = (0 : Int))) (
    .ret (.int .i64 r1.2.1)) <|
  .call 16 #[.pointer (some x0), .int .i64 x1, .string r1.1] .I fun (i2 : Int) =>
  .ret (.int .i64 i2)
theorem gmem_Memory_Store.eq (x0 : Addr) (x1 : Int) (x2 : Int) (x3 : Int) : trOf Try.prog CC (.o) Try.f40 [.pointer (some x0), .int .i64 x1, .int .i64 x2, .int .u64 x3] = gmem_Memory_Store.T x0 x1 x2 x3 := by kernel_rfl
theorem gmem_Memory_Store.calls (x0 : Addr) (x1 : Int) (x2 : Int) (x3 : Int) {R : Ending → World → Prop} {w : World} (h : (gmem_Memory_Store.T x0 x1 x2 x3).wp Try.prog R Conts.none w) : Calls Try.prog 40 #[.pointer (some x0), .int .i64 x1, .int .i64 x2, .int .u64 x3] w R :=
  calls_of_tr (args := [.pointer (some x0), .int .i64 x1, .int .i64 x2, .int .u64 x3]) hCC hMO Try.func40 ((gmem_Memory_Store.eq x0 x1 x2 x3).symm ▸ h)

/-- aqueduct/spot.Next -/
def spot_Next.T (x0 : Int × Bool × PUnit) (x1 : Int) (x2 : Int) : Tr :=
  .new 42 [.int .i64 x0.1, .bool x0.2.1] fun (a0 : Addr) =>
  .new 42 [.int .i64 0, .bool false] fun (a1 : Addr) =>
  .ld a0 (.agg [.I, .bool]) fun (r2 : Int × Bool × Unit) =>
  .call 67 #[.agg #[.int .i64 r2.1, .bool r2.2.1], .int .i64 x2] .I fun (i3 : Int) =>
  .cond (!decide (i3 = (0 : Int))) (
    .st a1 [.int .i64 0, .bool false] <|
    .ld a1 (.agg [.I, .bool]) fun (r4 : Int × Bool × Unit) =>
    .ret (.tuple #[.agg #[.int .i64 r4.1, .bool r4.2.1], .int .i64 i3])) <|
  .cond (decide (x1 < (0 : Int))) (
    .st a1 [.int .i64 0, .bool false] <|
    .ld a1 (.agg [.I, .bool]) fun (r5 : Int × Bool × Unit) =>
    .ret (.tuple #[.agg #[.int .i64 r5.1, .bool r5.2.1], .int .i64 1])) <|
  .cond (decide (x2 < x1)) (
    .st a1 [.int .i64 0, .bool false] <|
    .ld a1 (.agg [.I, .bool]) fun (r6 : Int × Bool × Unit) =>
    .ret (.tuple #[.agg #[.int .i64 r6.1, .bool r6.2.1], .int .i64 1])) <|
  .ld (a0.add 0) .I fun (i7 : Int) =>
  .st (a0.add 0) [.int .i64 (IntKind.i64.wrap (i7 + x1))] <|
  .ld (a0.add 0) .I fun (i8 : Int) =>
  .cond (decide (x2 ≤ i8)) (
    .ld (a0.add 0) .I fun (i9 : Int) =>
    .st (a0.add 0) [.int .i64 (IntKind.i64.wrap (i9 - x2))] <|
    .ld (a0.add 1) .B fun (b10 : Bool) =>
    .st (a0.add 1) [.bool (!b10)] <|
    .ld a0 (.agg [.I, .bool]) fun (r11 : Int × Bool × Unit) =>
    .st a1 [.int .i64 r11.1, .bool r11.2.1] <|
    .ld a1 (.agg [.I, .bool]) fun (r12 : Int × Bool × Unit) =>
    .ret (.tuple #[.agg #[.int .i64 r12.1, .bool r12.2.1], .int .i64 0])) <|
  .ld a0 (.agg [.I, .bool]) fun (r13 : Int × Bool × Unit) =>
  .st a1 [.int .i64 r13.1, .bool r13.2.1] <|
  .ld a1 (.agg [.I, .bool]) fun (r14 : Int × Bool × Unit) =>
  .ret (.tuple #[.agg #[.int .i64 r14.1, .bool r14.2.1], .int .i64 0])
theorem spot_Next.eq (x0 : Int × Bool × PUnit) (x1 : Int) (x2 : Int) : trOf Try.prog CC (.o) Try.f41 [.agg #[.int .i64 x0.fst, .bool x0.snd.fst], .int .i64 x1, .int .i64 x2] = spot_Next.T x0 x1 x2 := by kernel_rfl
theorem spot_Next.calls (x0 : Int × Bool × PUnit) (x1 : Int) (x2 : Int) {R : Ending → World → Prop} {w : World} (h : (spot_Next.T x0 x1 x2).wp Try.prog R Conts.none w) : Calls Try.prog 41 #[.agg #[.int .i64 x0.fst, .bool x0.snd.fst], .int .i64 x1, .int .i64 x2] w R :=
  calls_of_tr (args := [.agg #[.int .i64 x0.fst, .bool x0.snd.fst], .int .i64 x1, .int .i64 x2]) hCC hMO Try.func41 ((spot_Next.eq x0 x1 x2).symm ▸ h)

/-- (*aqueduct/gmem.Memory).Read -/
def gmem_Memory_Read.T (x0 : Addr) (x1 : Int) (x2 : Int) : Tr :=
  .cond (decide (x2 < (0 : Int))) (
    .ret (.tuple #[.string (ByteArray.mk #[]), .int .i64 1])) <|
  .call 45 #[.pointer (some x0), .int .i64 x1, .int .i64 x2] .B fun (b0 : Bool) =>
  .cond (!b0) (
    .ret (.tuple #[.string (ByteArray.mk #[]), .int .i64 41])) <|
  .call 46 #[.pointer (some x0), .int .i64 x1, .int .i64 x2, .bool false] (.tup []) fun (u1 : Unit) =>
  .ld (x0.add 0) .L fun (l2 : Sl) =>
  .need ((0 : Int) ≤ IntKind.i64.wrap (x1 + x2) ∧ IntKind.i64.wrap (x1 + x2) ≤ (↑l2.c : Int) ∧ (0 : Int) ≤ x1 ∧ x1 ≤ IntKind.i64.wrap (x1 + x2)) <|
  .sem (Go.convert (85) (9) (.slice (slB l2.a x1.toNat 1 l2.c) ((IntKind.i64.wrap (x1 + x2)).toNat - x1.toNat) (l2.c - x1.toNat))) .S fun (s3 : ByteArray) =>
  .ret (.tuple #[.string s3, .int .i64 0])
theorem gmem_Memory_Read.eq (x0 : Addr) (x1 : Int) (x2 : Int) : trOf Try.prog CC (.o) Try.f42 [.pointer (some x0), .int .i64 x1, .int .i64 x2] = gmem_Memory_Read.T x0 x1 x2 := by kernel_rfl
theorem gmem_Memory_Read.calls (x0 : Addr) (x1 : Int) (x2 : Int) {R : Ending → World → Prop} {w : World} (h : (gmem_Memory_Read.T x0 x1 x2).wp Try.prog R Conts.none w) : Calls Try.prog 42 #[.pointer (some x0), .int .i64 x1, .int .i64 x2] w R :=
  calls_of_tr (args := [.pointer (some x0), .int .i64 x1, .int .i64 x2]) hCC hMO Try.func42 ((gmem_Memory_Read.eq x0 x1 x2).symm ▸ h)

/-- aqueduct/desc.Parse -/
def desc_Parse.T (x0 : ByteArray) : Tr :=
  .new 9 [.string x0] fun (a0 : Addr) =>
  .new 110 [.int .u64 0, .int .u32 0, .int .i64 0, .int .i64 0] fun (a1 : Addr) =>
  .ld a0 .S fun (s2 : ByteArray) =>
  .cond (!decide ((↑s2.size : Int) = (16 : Int))) (
    .st a1 [.int .u64 0, .int .u32 0, .int .i64 0, .int .i64 0] <|
    .ld a1 (.agg [.U64, .U32, .I, .I]) fun (r3 : Int × Int × Int × Int × Unit) =>
    .ret (.tuple #[.agg #[.int .u64 r3.1, .int .u32 r3.2.1, .int .i64 r3.2.2.1, .int .i64 r3.2.2.2.1], .int .i64 1])) <|
  .callv false (.func (Fn.func 68) #[] #[.pointer (some a0)]) #[.int .i64 0, .int .i64 8] .U64 fun (i4 : Int) =>
  .callv false (.func (Fn.func 68) #[] #[.pointer (some a0)]) #[.int .i64 8, .int .i64 4] .U64 fun (i5 : Int) =>
  .callv false (.func (Fn.func 68) #[] #[.pointer (some a0)]) #[.int .i64 12, .int .i64 2] .U64 fun (i6 : Int) =>
  .callv false (.func (Fn.func 68) #[] #[.pointer (some a0)]) #[.int .i64 14, .int .i64 2] .U64 fun (i7 : Int) =>
  .st a1 [.int .u64 i4, .int .u32 (IntKind.u32.wrap i5), .int .i64 (IntKind.i64.wrap i6), .int .i64 (IntKind.i64.wrap i7)] <|
  .ld a1 (.agg [.U64, .U32, .I, .I]) fun (r8 : Int × Int × Int × Int × Unit) =>
  .ret (.tuple #[.agg #[.int .u64 r8.1, .int .u32 r8.2.1, .int .i64 r8.2.2.1, .int .i64 r8.2.2.2.1], .int .i64 0])
theorem desc_Parse.eq (x0 : ByteArray) : trOf Try.prog CC (.o) Try.f43 [.string x0] = desc_Parse.T x0 := by kernel_rfl
theorem desc_Parse.calls (x0 : ByteArray) {R : Ending → World → Prop} {w : World} (h : (desc_Parse.T x0).wp Try.prog R Conts.none w) : Calls Try.prog 43 #[.string x0] w R :=
  calls_of_tr (args := [.string x0]) hCC hMO Try.func43 ((desc_Parse.eq x0).symm ▸ h)

/-- aqueduct/desc.Used -/
def desc_Used.T (x0 : Int) (x1 : Bool) : Tr :=
  .call 70 #[.int .i64 x0, .bool x1] .I fun (i0 : Int) =>
  .ret (.bool (decide (i0 = (2 : Int))))
theorem desc_Used.eq (x0 : Int) (x1 : Bool) : trOf Try.prog CC (.o) Try.f44 [.int .i64 x0, .bool x1] = desc_Used.T x0 x1 := by kernel_rfl
theorem desc_Used.calls (x0 : Int) (x1 : Bool) {R : Ending → World → Prop} {w : World} (h : (desc_Used.T x0 x1).wp Try.prog R Conts.none w) : Calls Try.prog 44 #[.int .i64 x0, .bool x1] w R :=
  calls_of_tr (args := [.int .i64 x0, .bool x1]) hCC hMO Try.func44 ((desc_Used.eq x0 x1).symm ▸ h)

/-- (*aqueduct/gmem.Memory).May -/
def gmem_Memory_May.T (x0 : Addr) (x1 : Int) (x2 : Int) : Tr :=
  .cond (decide ((0 : Int) ≤ x1)) (
    .cond (decide ((0 : Int) ≤ x2)) (
      .ld (x0.add 0) .L fun (l0 : Sl) =>
      .cond (decide (x2 ≤ (↑l0.n : Int))) (
        .ld (x0.add 0) .L fun (l1 : Sl) =>
        .ret (.bool (decide (x1 ≤ IntKind.i64.wrap ((↑l1.n : Int) - x2))))) <|
      .ret (.bool false)) <|
    .ret (.bool false)) <|
  .ret (.bool false)
theorem gmem_Memory_May.eq (x0 : Addr) (x1 : Int) (x2 : Int) : trOf Try.prog CC (.o) Try.f45 [.pointer (some x0), .int .i64 x1, .int .i64 x2] = gmem_Memory_May.T x0 x1 x2 := by kernel_rfl
theorem gmem_Memory_May.calls (x0 : Addr) (x1 : Int) (x2 : Int) {R : Ending → World → Prop} {w : World} (h : (gmem_Memory_May.T x0 x1 x2).wp Try.prog R Conts.none w) : Calls Try.prog 45 #[.pointer (some x0), .int .i64 x1, .int .i64 x2] w R :=
  calls_of_tr (args := [.pointer (some x0), .int .i64 x1, .int .i64 x2]) hCC hMO Try.func45 ((gmem_Memory_May.eq x0 x1 x2).symm ▸ h)

/-- (*aqueduct/gmem.Memory).note -/
def gmem_Memory_note.T (x0 : Addr) (x1 : Int) (x2 : Int) (x3 : Bool) : Tr :=
  .cond (decide (x2 = (0 : Int))) (
    .ret (.tuple #[])) <|
  .tick <|
  .ld (x0.add 2) .L fun (l0 : Sl) =>
  .ld (x0.add 1) .I fun (i1 : Int) =>
  .new 121 [.int .i64 i1, .int .i64 x1, .int .i64 x2, .bool x3] fun (a2 : Addr) =>
  .keep [(x0.add 2, [.slice l0.a l0.n l0.c])] <|
  .sem (Go.Builtin.append_ #[88, 88] (88) #[.slice l0.a l0.n l0.c, .slice (some a2) (1) (1)]) .L fun (l3 : Sl) =>
  .st (x0.add 2) [.slice l3.a l3.n l3.c] <|
  .ld (x0.add 2) .L fun (l4 : Sl) =>
  .cond (decide ((8192 : Int) < (↑l4.n : Int))) (
    .tick <|
    .ld (x0.add 2) .L fun (l5 : Sl) =>
    .ld (x0.add 2) .L fun (l6 : Sl) =>
    .need ((0 : Int) ≤ IntKind.i64.wrap ((↑l6.n : Int) - (4096 : Int)) ∧ IntKind.i64.wrap ((↑l6.n : Int) - (4096 : Int)) ≤ (↑l5.n : Int)) <|
    .calln 50 #[.slice (slB l5.a (IntKind.i64.wrap ((↑l6.n : Int) - (4096 : Int))).toNat 4 l5.c) (l5.n - (IntKind.i64.wrap ((↑l6.n : Int) - (4096 : Int))).toNat) (l5.c - (IntKind.i64.wrap ((↑l6.n : Int) - (4096 : Int))).toNat)] .L fun (l7 : Sl) =>
    .st (x0.add 2) [.slice l7.a l7.n l7.c] <|
    .ret (.tuple #[])) <|
  .ret (.tuple #[])
theorem gmem_Memory_note.eq (x0 : Addr) (x1 : Int) (x2 : Int) (x3 : Bool) : trOf Try.prog CC (.o) Try.f46 [.pointer (some x0), .int .i64 x1, .int .i64 x2, .bool x3] = gmem_Memory_note.T x0 x1 x2 x3 := by kernel_rfl
theorem gmem_Memory_note.calls (x0 : Addr) (x1 : Int) (x2 : Int) (x3 : Bool) {R : Ending → World → Prop} {w : World} (h : (gmem_Memory_note.T x0 x1 x2 x3).wp Try.prog R Conts.none w) : Calls Try.prog 46 #[.pointer (some x0), .int .i64 x1, .int .i64 x2, .bool x3] w R :=
  calls_of_tr (args := [.pointer (some x0), .int .i64 x1, .int .i64 x2, .bool x3]) hCC hMO Try.func46 ((gmem_Memory_note.eq x0 x1 x2 x3).symm ▸ h)

/-- aqueduct/aqueductref12.Build -/
def aqueductref12_Build.T (x0 : Int × Int × Int × Int × PUnit) : Tr :=
  .new 110 [.int .u64 x0.1, .int .u32 x0.2.1, .int .i64 x0.2.2.1, .int .i64 x0.2.2.2.1] fun (a0 : Addr) =>
  .ld (a0.add 2) .I fun (i1 : Int) =>
  .cond (decide (i1 < (0 : Int))) (
    .ret (.tuple #[.string (ByteArray.mk #[]), .int .i64 1])) <|
  .ld (a0.add 2) .I fun (i2 : Int) =>
  .cond (decide ((65535 : Int) < i2)) (
    .ret (.tuple #[.string (ByteArray.mk #[]), .int .i64 1])) <|
  .ld (a0.add 3) .I fun (i3 : Int) =>
  .cond (decide (i3 < (0 : Int))) (
    .ret (.tuple #[.string (ByteArray.mk #[]), .int .i64 1])) <|
  .ld (a0.add 3) .I fun (i4 : Int) =>
  .cond (decide ((65535 : Int) < i4)) (
    .ret (.tuple #[.string (ByteArray.mk #[]), .int .i64 1])) <|
  .ld (a0.add 0) .U64 fun (i5 : Int) =>
  .call 71 #[.int .u64 i5, .int .i64 8, .bool false] (.tup [.S, .I]) fun (r6 : ByteArray × Int × Unit) =>
  .ld (a0.add 1) .U32 fun (i7 : Int) =>
  .call 71 #[.int .u64 (IntKind.u64.wrap i7), .int .i64 4, .bool false] (.tup [.S, .I]) fun (r8 : ByteArray × Int × Unit) =>
  .ld (a0.add 2) .I fun (i9 : Int) =>
  .call 71 #[.int .u64 (IntKind.u64.wrap i9), .int .i64 2, .bool false] (.tup [.S, .I]) fun (r10 : ByteArray × Int × Unit) =>
  .ld (a0.add 3) .I fun (i11 : Int) =>
  .call 71 #[.int .u64 (IntKind.u64.wrap i11), .int .i64 2, .bool false] (.tup [.S, .I]) fun (r12 : ByteArray × Int × Unit) =>
  .need (ByteArray.size r6.1 + ByteArray.size r8.1 ≤ 9223372036854775807) <|
  .need ((r6.1 ++ r8.1).size + ByteArray.size r10.1 ≤ 9223372036854775807) <|
  .need ((r6.1 ++ r8.1 ++ r10.1).size + ByteArray.size r12.1 ≤ 9223372036854775807) <|
  .ret (.tuple #[.string (r6.1 ++ r8.1 ++ r10.1 ++ r12.1), .int .i64 0])
theorem aqueductref12_Build.eq (x0 : Int × Int × Int × Int × PUnit) : trOf Try.prog CC (.o) Try.f47 [.agg #[.int .u64 x0.fst, .int .u32 x0.snd.fst, .int .i64 x0.snd.snd.fst, .int .i64 x0.snd.snd.snd.fst]] = aqueductref12_Build.T x0 := by kernel_rfl
theorem aqueductref12_Build.calls (x0 : Int × Int × Int × Int × PUnit) {R : Ending → World → Prop} {w : World} (h : (aqueductref12_Build.T x0).wp Try.prog R Conts.none w) : Calls Try.prog 47 #[.agg #[.int .u64 x0.fst, .int .u32 x0.snd.fst, .int .i64 x0.snd.snd.fst, .int .i64 x0.snd.snd.snd.fst]] w R :=
  calls_of_tr (args := [.agg #[.int .u64 x0.fst, .int .u32 x0.snd.fst, .int .i64 x0.snd.snd.fst, .int .i64 x0.snd.snd.snd.fst]]) hCC hMO Try.func47 ((aqueductref12_Build.eq x0).symm ▸ h)

/-- aqueduct/aqueductref12.Mark -/
def aqueductref12_Mark.T (x0 : Int) (x1 : Bool) (x2 : Bool) : Tr :=
  .need ((128 : Int) ≠ (0 : Int)) <|
  .need ((2 : Int) ≠ (0 : Int)) <|
  .need ((32768 : Int) ≠ (0 : Int)) <|
  .need ((2 : Int) ≠ (0 : Int)) <|
  .bind 0 [.I] (
    .cond x1 (
      .jmp 0 [.int .i64 (IntKind.i64.wrap (IntKind.i64.wrap (IntKind.i64.wrap (x0 - IntKind.i64.wrap ((IntKind.i64.wrap (x0.tdiv (128 : Int))).tmod (2 : Int) * (128 : Int))) - IntKind.i64.wrap ((IntKind.i64.wrap (x0.tdiv (32768 : Int))).tmod (2 : Int) * (32768 : Int))) + (128 : Int)))]) <|
    .jmp 0 [.int .i64 (IntKind.i64.wrap (IntKind.i64.wrap (x0 - IntKind.i64.wrap ((IntKind.i64.wrap (x0.tdiv (128 : Int))).tmod (2 : Int) * (128 : Int))) - IntKind.i64.wrap ((IntKind.i64.wrap (x0.tdiv (32768 : Int))).tmod (2 : Int) * (32768 : Int))))]) fun (r0 : Int × Unit) =>
  .cond x2 (
    .cond x1 (
      .ret (.int .i64 (IntKind.i64.wrap (r0.1 + (32768 : Int))))) <|
    .cond (!x2) (
      .cond (!x1) (
        .ret (.int .i64 (IntKind.i64.wrap (r0.1 + (32768 : Int))))) <|
      .ret (.int .i64 r0.1)) <|
    .ret (.int .i64 r0.1)) <|
  .cond (!x2) (
    .cond (!x1) (
      .ret (.int .i64 (IntKind.i64.wrap (r0.1 + (32768 : Int))))) <|
    .ret (.int .i64 r0.1)) <|
  .ret (.int .i64 r0.1)
theorem aqueductref12_Mark.eq (x0 : Int) (x1 : Bool) (x2 : Bool) : trOf Try.prog CC (.seq .o (.seq .o (.join [7] [.sc (.int .i64)] .o .o))) Try.f48 [.int .i64 x0, .bool x1, .bool x2] = aqueductref12_Mark.T x0 x1 x2 := by kernel_rfl
theorem aqueductref12_Mark.calls (x0 : Int) (x1 : Bool) (x2 : Bool) {R : Ending → World → Prop} {w : World} (h : (aqueductref12_Mark.T x0 x1 x2).wp Try.prog R Conts.none w) : Calls Try.prog 48 #[.int .i64 x0, .bool x1, .bool x2] w R :=
  calls_of_tr (args := [.int .i64 x0, .bool x1, .bool x2]) hCC hMO Try.func48 ((aqueductref12_Mark.eq x0 x1 x2).symm ▸ h)

/-- slices.Clone[[]byte,byte] -/
def slices_Clone_bytebyte.T (x0 : Sl) : Tr :=
  .cond x0.a.isNone (
    .ret (.slice none (0) (0))) <|
  .new 5 [] fun (a0 : Addr) =>
  .sem (Go.Builtin.append_ #[85, 85] (85) #[.slice (some a0) (0) (0), .slice x0.a x0.n x0.c]) .L fun (l1 : Sl) =>
  .ret (.slice l1.a l1.n l1.c)
theorem slices_Clone_bytebyte.eq (x0 : Sl) : trOf Try.prog CC (.o) Try.f49 [.slice x0.a x0.n x0.c] = slices_Clone_bytebyte.T x0 := by kernel_rfl
theorem slices_Clone_bytebyte.calls (x0 : Sl) {R : Ending → World → Prop} {w : World} (h : (slices_Clone_bytebyte.T x0).wp Try.prog R Conts.none w) : Calls Try.prog 49 #[.slice x0.a x0.n x0.c] w R :=
  calls_of_tr (args := [.slice x0.a x0.n x0.c]) hCC hMO Try.func49 ((slices_Clone_bytebyte.eq x0).symm ▸ h)

/-- slices.Clone[[]aqueduct/api.Access,aqueduct/api.Access] -/
def slices_Clone_apiAccessapiAccess.T (x0 : Sl) : Tr :=
  .cond x0.a.isNone (
    .ret (.slice none (0) (0))) <|
  .new 121 [] fun (a0 : Addr) =>
  .sem (Go.Builtin.append_ #[88, 88] (88) #[.slice (some a0) (0) (0), .slice x0.a x0.n x0.c]) .L fun (l1 : Sl) =>
  .ret (.slice l1.a l1.n l1.c)
theorem slices_Clone_apiAccessapiAccess.eq (x0 : Sl) : trOf Try.prog CC (.o) Try.f50 [.slice x0.a x0.n x0.c] = slices_Clone_apiAccessapiAccess.T x0 := by kernel_rfl
theorem slices_Clone_apiAccessapiAccess.calls (x0 : Sl) {R : Ending → World → Prop} {w : World} (h : (slices_Clone_apiAccessapiAccess.T x0).wp Try.prog R Conts.none w) : Calls Try.prog 50 #[.slice x0.a x0.n x0.c] w R :=
  calls_of_tr (args := [.slice x0.a x0.n x0.c]) hCC hMO Try.func50 ((slices_Clone_apiAccessapiAccess.eq x0).symm ▸ h)

/-- aqueduct/devq.Check -/
def devq_Check.T (x0 : Addr) (x1 : Int × Int × Int × Int × PUnit) : Tr :=
  .new 23 [.int .i64 x1.1, .int .i64 x1.2.1, .int .i64 x1.2.2.1, .int .i64 x1.2.2.2.1] fun (a0 : Addr) =>
  .ld (a0.add 1) .I fun (i1 : Int) =>
  .cond (decide (i1 < (1 : Int))) (
    .ret (.int .i64 140)) <|
  .ld (a0.add 1) .I fun (i2 : Int) =>
  .cond (decide ((32768 : Int) < i2)) (
    .ret (.int .i64 140)) <|
  .ld (a0.add 0) .I fun (i3 : Int) =>
  .need ((16 : Int) ≠ (0 : Int)) <|
  .cond (!decide (i3.tmod (16 : Int) = (0 : Int))) (
    .ret (.int .i64 140)) <|
  .ld (a0.add 2) .I fun (i4 : Int) =>
  .need ((4 : Int) ≠ (0 : Int)) <|
  .cond (!decide (i4.tmod (4 : Int) = (0 : Int))) (
    .ret (.int .i64 140)) <|
  .ld (a0.add 3) .I fun (i5 : Int) =>
  .need ((4 : Int) ≠ (0 : Int)) <|
  .cond (!decide (i5.tmod (4 : Int) = (0 : Int))) (
    .ret (.int .i64 140)) <|
  .ld (a0.add 0) .I fun (i6 : Int) =>
  .ld (a0.add 1) .I fun (i7 : Int) =>
  .call 45 #[.pointer (some x0), .int .i64 i6, .int .i64 (IntKind.i64.wrap ((16 : Int) * i7))] .B fun (b8 : Bool) =>
  .cond (!b8) (
    .ret (.int .i64 140)) <|
  .ld (a0.add 2) .I fun (i9 : Int) =>
  .call 45 #[.pointer (some x0), .int .i64 i9, .int .i64 4] .B fun (b10 : Bool) =>
  .cond (!b10) (
    .ret (.int .i64 140)) <|
  .ld (a0.add 3) .I fun (i11 : Int) =>
  .call 45 #[.pointer (some x0), .int .i64 i11, .int .i64 4] .B fun (b12 : Bool) =>
  .cond (!b12) (
    .ret (.int .i64 140)) <|
  .ret (.int .i64 0)
theorem devq_Check.eq (x0 : Addr) (x1 : Int × Int × Int × Int × PUnit) : trOf Try.prog CC (.o) Try.f52 [.pointer (some x0), .agg #[.int .i64 x1.fst, .int .i64 x1.snd.fst, .int .i64 x1.snd.snd.fst, .int .i64 x1.snd.snd.snd.fst]] = devq_Check.T x0 x1 := by kernel_rfl
theorem devq_Check.calls (x0 : Addr) (x1 : Int × Int × Int × Int × PUnit) {R : Ending → World → Prop} {w : World} (h : (devq_Check.T x0 x1).wp Try.prog R Conts.none w) : Calls Try.prog 52 #[.pointer (some x0), .agg #[.int .i64 x1.fst, .int .i64 x1.snd.fst, .int .i64 x1.snd.snd.fst, .int .i64 x1.snd.snd.snd.fst]] w R :=
  calls_of_tr (args := [.pointer (some x0), .agg #[.int .i64 x1.fst, .int .i64 x1.snd.fst, .int .i64 x1.snd.snd.fst, .int .i64 x1.snd.snd.snd.fst]]) hCC hMO Try.func52 ((devq_Check.eq x0 x1).symm ▸ h)

/-- (*aqueduct/devq.Queue).read -/
def devq_Queue_read.T (x0 : Addr) (x1 : Int) : Tr :=
  .new 110 [.int .u64 0, .int .u32 0, .int .i64 0, .int .i64 0] fun (a0 : Addr) =>
  .ld (x0.add 0) .P fun (p1 : Option Addr) =>
  .call 42 #[.pointer p1, .int .i64 x1, .int .i64 16] (.tup [.S, .I]) fun (r2 : ByteArray × Int × Unit) =>
  .call 79 #[.bool (decide (r2.2.1 = (0 : Int)))] (.tup []) fun (u3 : Unit) =>
  .call 43 #[.string r2.1] (.tup [(.agg [.U64, .U32, .I, .I]), .I]) fun (r4 : (Int × Int × Int × Int × Unit) × Int × Unit) =>
  .new 110 [.int .u64 0, .int .u32 0, .int .i64 0, .int .i64 0] fun (a5 : Addr) =>
  .st a5 [.int .u64 r4.1.1, .int .u32 r4.1.2.1, .int .i64 r4.1.2.2.1, .int .i64 r4.1.2.2.2.1] <|
  .ld a5 (.agg [.U64, .U32, .I, .I]) fun (r6 : Int × Int × Int × Int × Unit) =>
  .st a0 [.int .u64 r6.1, .int .u32 r6.2.1, .int .i64 r6.2.2.1, .int .i64 r6.2.2.2.1] <|
  .ld a0 (.agg [.U64, .U32, .I, .I]) fun (r7 : Int × Int × Int × Int × Unit) =>
  .ret (.agg #[.int .u64 r7.1, .int .u32 r7.2.1, .int .i64 r7.2.2.1, .int .i64 r7.2.2.2.1])
theorem devq_Queue_read.eq (x0 : Addr) (x1 : Int) : trOf Try.prog CC (.o) Try.f55 [.pointer (some x0), .int .i64 x1] = devq_Queue_read.T x0 x1 := by kernel_rfl
theorem devq_Queue_read.calls (x0 : Addr) (x1 : Int) {R : Ending → World → Prop} {w : World} (h : (devq_Queue_read.T x0 x1).wp Try.prog R Conts.none w) : Calls Try.prog 55 #[.pointer (some x0), .int .i64 x1] w R :=
  calls_of_tr (args := [.pointer (some x0), .int .i64 x1]) hCC hMO Try.func55 ((devq_Queue_read.eq x0 x1).symm ▸ h)

/-- aqueduct/desc.Avail -/
def desc_Avail.T (x0 : Int) (x1 : Bool) : Tr :=
  .call 70 #[.int .i64 x0, .bool x1] .I fun (i0 : Int) =>
  .ret (.bool (decide (i0 = (1 : Int))))
theorem desc_Avail.eq (x0 : Int) (x1 : Bool) : trOf Try.prog CC (.o) Try.f56 [.int .i64 x0, .bool x1] = desc_Avail.T x0 x1 := by kernel_rfl
theorem desc_Avail.calls (x0 : Int) (x1 : Bool) {R : Ending → World → Prop} {w : World} (h : (desc_Avail.T x0 x1).wp Try.prog R Conts.none w) : Calls Try.prog 56 #[.int .i64 x0, .bool x1] w R :=
  calls_of_tr (args := [.int .i64 x0, .bool x1]) hCC hMO Try.func56 ((desc_Avail.eq x0 x1).symm ▸ h)

/-- (*aqueduct/devq.Queue).chain -/
def devq_Queue_chain.T (x0 : Addr) (x1 : Int × Int × Int × Int × PUnit) : Tr :=
  .new 110 [.int .u64 x1.1, .int .u32 x1.2.1, .int .i64 x1.2.2.1, .int .i64 x1.2.2.2.1] fun (a0 : Addr) =>
  .new 74 [.int .i64 0, .int .i64 0, .slice none (0) (0)] fun (a1 : Addr) =>
  .tick <|
  .ld ((x0.add 1).add 1) .I fun (i2 : Int) =>
  .ld (x0.add 12) .I fun (i3 : Int) =>
  .ld a0 (.agg [.U64, .U32, .I, .I]) fun (r4 : Int × Int × Int × Int × Unit) =>
  .new 110 [.int .u64 r4.1, .int .u32 r4.2.1, .int .i64 r4.2.2.1, .int .i64 r4.2.2.2.1] fun (a5 : Addr) =>
  .ld (x0.add 5) (.agg [.I, .bool]) fun (r6 : Int × Bool × Unit) =>
  .new 42 [.int .i64 0, .bool false] fun (a7 : Addr) =>
  .st a7 [.int .i64 r6.1, .bool r6.2.1] <|
  .loop 0 [.L] ((Sl.mk (some a5) 1 1, ())) fun (r8 : Sl × Unit) =>
    .ld (a0.add 3) .I fun (i9 : Int) =>
    .cond (!decide (band IntKind.i64 i9 (1 : Int) = (0 : Int))) (
      .call 79 #[.bool (decide ((↑r8.1.n : Int) < imn (64 : Int) (IntKind.i64.wrap (i2 - i3))))] (.tup []) fun (u10 : Unit) =>
      .tick <|
      .ld a7 (.agg [.I, .bool]) fun (r11 : Int × Bool × Unit) =>
      .ld ((x0.add 1).add 1) .I fun (i12 : Int) =>
      .calln 41 #[.agg #[.int .i64 r11.1, .bool r11.2.1], .int .i64 1, .int .i64 i12] (.tup [(.agg [.I, .bool]), .I]) fun (r13 : (Int × Bool × Unit) × Int × Unit) =>
      .st a7 [.int .i64 r13.1.1, .bool r13.1.2.1] <|
      .tick <|
      .ld ((x0.add 1).add 0) .I fun (i14 : Int) =>
      .ld (a7.add 0) .I fun (i15 : Int) =>
      .calln 55 #[.pointer (some x0), .int .i64 (IntKind.i64.wrap (i14 + IntKind.i64.wrap ((16 : Int) * i15)))] (.one (.agg [.U64, .U32, .I, .I])) fun (r16 : Int × Int × Int × Int × Unit) =>
      .st a0 [.int .u64 r16.1, .int .u32 r16.2.1, .int .i64 r16.2.2.1, .int .i64 r16.2.2.2.1] <|
      .ld a0 (.agg [.U64, .U32, .I, .I]) fun (r17 : Int × Int × Int × Int × Unit) =>
      .new 110 [.int .u64 r17.1, .int .u32 r17.2.1, .int .i64 r17.2.2.1, .int .i64 r17.2.2.2.1] fun (a18 : Addr) =>
      .sem (Go.Builtin.append_ #[156, 156] (156) #[.slice r8.1.a r8.1.n r8.1.c, .slice (some a18) (1) (1)]) .L fun (l19 : Sl) =>
      .jmp 0 [.slice l19.a l19.n l19.c]) <|
    .ld (a0.add 2) .I fun (i20 : Int) =>
    .new 74 [.int .i64 0, .int .i64 0, .slice none (0) (0)] fun (a21 : Addr) =>
    .st a21 [.int .i64 i20, .int .i64 ((↑r8.1.n : Int)), .slice none (0) (0)] <|
    .loop 0 [.I] (((0 : Int), ())) fun (r22 : Int × Unit) =>
      .cond (decide (r22.1 < (↑r8.1.n : Int))) (
        .need ((0 : Int) ≤ r22.1 ∧ r22.1 < (↑r8.1.n : Int)) <|
        .nil r8.1.a fun (a23 : Addr) =>
        .ld (a23.add (Int.toNat r22.1 * 4)) (.agg [.U64, .U32, .I, .I]) fun (r24 : Int × Int × Int × Int × Unit) =>
        .new 110 [.int .u64 0, .int .u32 0, .int .i64 0, .int .i64 0] fun (a25 : Addr) =>
        .st a25 [.int .u64 r24.1, .int .u32 r24.2.1, .int .i64 r24.2.2.1, .int .i64 r24.2.2.2.1] <|
        .ld (a25.add 3) .I fun (i26 : Int) =>
        .cond (decide (band IntKind.i64 i26 (4 : Int) = (0 : Int))) (
          .call 79 #[.bool true] (.tup []) fun (u27 : Unit) =>
          .jmp 0 [.int .i64 (IntKind.i64.wrap (r22.1 + (1 : Int)))]) <|
        .call 79 #[.bool (decide ((↑r8.1.n : Int) = (1 : Int)))] (.tup []) fun (u28 : Unit) =>
        .jmp 0 [.int .i64 (IntKind.i64.wrap (r22.1 + (1 : Int)))]) <|
      .bind 0 [.L] (
        .ld (a0.add 3) .I fun (i29 : Int) =>
        .cond (!decide (band IntKind.i64 i29 (4 : Int) = (0 : Int))) (
          .ld a0 (.agg [.U64, .U32, .I, .I]) fun (r30 : Int × Int × Int × Int × Unit) =>
          .call 80 #[.pointer (some x0), .agg #[.int .u64 r30.1, .int .u32 r30.2.1, .int .i64 r30.2.2.1, .int .i64 r30.2.2.2.1]] .L fun (l31 : Sl) =>
          .jmp 0 [.slice l31.a l31.n l31.c]) <|
        .jmp 0 [.slice r8.1.a r8.1.n r8.1.c]) fun (r32 : Sl × Unit) =>
      .loop 0 [.B, .I] ((false, (0 : Int), ())) fun (r33 : Bool × Int × Unit) =>
        .cond (decide (r33.2.1 < (↑r32.1.n : Int))) (
          .need ((0 : Int) ≤ r33.2.1 ∧ r33.2.1 < (↑r32.1.n : Int)) <|
          .nil r32.1.a fun (a34 : Addr) =>
          .ld (a34.add (Int.toNat r33.2.1 * 4)) (.agg [.U64, .U32, .I, .I]) fun (r35 : Int × Int × Int × Int × Unit) =>
          .new 110 [.int .u64 0, .int .u32 0, .int .i64 0, .int .i64 0] fun (a36 : Addr) =>
          .st a36 [.int .u64 r35.1, .int .u32 r35.2.1, .int .i64 r35.2.2.1, .int .i64 r35.2.2.2.1] <|
          .ld a36 (.agg [.U64, .U32, .I, .I]) fun (r37 : Int × Int × Int × Int × Unit) =>
          .call 81 #[.pointer (some x0), .agg #[.int .u64 r37.1, .int .u32 r37.2.1, .int .i64 r37.2.2.1, .int .i64 r37.2.2.2.1]] (.one (.agg [.I, .I, .bool])) fun (r38 : Int × Int × Bool × Unit) =>
          .new 56 [.int .i64 0, .int .i64 0, .bool false] fun (a39 : Addr) =>
          .st a39 [.int .i64 r38.1, .int .i64 r38.2.1, .bool r38.2.2.1] <|
          .bind 1 [] (
            .ld (a39.add 2) .B fun (b40 : Bool) =>
            .cond b40 (
              .call 79 #[.bool true] (.tup []) fun (u41 : Unit) =>
              .jmp 1 []) <|
            .call 79 #[.bool (!r33.1)] (.tup []) fun (u42 : Unit) =>
            .jmp 1 []) fun (u43 : Unit) =>
          .ld (a39.add 2) .B fun (b44 : Bool) =>
          .ld (a21.add 2) .L fun (l45 : Sl) =>
          .ld a39 (.agg [.I, .I, .bool]) fun (r46 : Int × Int × Bool × Unit) =>
          .new 56 [.int .i64 r46.1, .int .i64 r46.2.1, .bool r46.2.2.1] fun (a47 : Addr) =>
          .sem (Go.Builtin.append_ #[32, 32] (32) #[.slice l45.a l45.n l45.c, .slice (some a47) (1) (1)]) .L fun (l48 : Sl) =>
          .st (a21.add 2) [.slice l48.a l48.n l48.c] <|
          .jmp 0 [.bool b44, .int .i64 (IntKind.i64.wrap (r33.2.1 + (1 : Int)))]) <|
        .ld a21 (.agg [.I, .I, .slc]) fun (r49 : Int × Int × Sl × Unit) =>
        .st a1 [.int .i64 r49.1, .int .i64 r49.2.1, .slice r49.2.2.1.a r49.2.2.1.n r49.2.2.1.c] <|
        .ld a1 (.agg [.I, .I, .slc]) fun (r50 : Int × Int × Sl × Unit) =>
        .ret (.agg #[.int .i64 r50.1, .int .i64 r50.2.1, .slice r50.2.2.1.a r50.2.2.1.n r50.2.2.1.c])
theorem devq_Queue_chain.eq (x0 : Addr) (x1 : Int × Int × Int × Int × PUnit) : trOf Try.prog CC (.seq .o (.seq .o (.seq .o (.seq .o (.seq (.seq (.loop [6] [.sc .slc] .o) .o) (.seq .o (.seq (.seq .o (.seq (.loop [73] [.sc (.int .i64)] .o) .o)) (.join [6] [.sc .slc] .o (.seq .o (.seq (.seq .o (.seq (.loop [11, 97] [.sc .bool, .sc (.int .i64)] (.seq .o (.seq .o (.seq (.seq (.seq .o (.seq .o (.join [] [] .o .o))) .o) .o)))) .o)) .o)))))))))) Try.f57 [.pointer (some x0), .agg #[.int .u64 x1.fst, .int .u32 x1.snd.fst, .int .i64 x1.snd.snd.fst, .int .i64 x1.snd.snd.snd.fst]] = devq_Queue_chain.T x0 x1 := by kernel_rfl
theorem devq_Queue_chain.calls (x0 : Addr) (x1 : Int × Int × Int × Int × PUnit) {R : Ending → World → Prop} {w : World} (h : (devq_Queue_chain.T x0 x1).wp Try.prog R Conts.none w) : Calls Try.prog 57 #[.pointer (some x0), .agg #[.int .u64 x1.fst, .int .u32 x1.snd.fst, .int .i64 x1.snd.snd.fst, .int .i64 x1.snd.snd.snd.fst]] w R :=
  calls_of_tr (args := [.pointer (some x0), .agg #[.int .u64 x1.fst, .int .u32 x1.snd.fst, .int .i64 x1.snd.snd.fst, .int .i64 x1.snd.snd.snd.fst]]) hCC hMO Try.func57 ((devq_Queue_chain.eq x0 x1).symm ▸ h)

/-- (*aqueduct/devq.Queue).Out -/
def devq_Queue_Out.T (x0 : Addr) : Tr :=
  .ld (x0.add 12) .I fun (i0 : Int) =>
  .ret (.int .i64 i0)
theorem devq_Queue_Out.eq (x0 : Addr) : trOf Try.prog CC (.o) Try.f58 [.pointer (some x0)] = devq_Queue_Out.T x0 := by kernel_rfl
theorem devq_Queue_Out.calls (x0 : Addr) {R : Ending → World → Prop} {w : World} (h : (devq_Queue_Out.T x0).wp Try.prog R Conts.none w) : Calls Try.prog 58 #[.pointer (some x0)] w R :=
  calls_of_tr (args := [.pointer (some x0)]) hCC hMO Try.func58 ((devq_Queue_Out.eq x0).symm ▸ h)

/-- (*aqueduct/aqueductref04.Memory).May -/
def aqueductref04_Memory_May.T (x0 : Addr) (x1 : Int) (x2 : Int) : Tr :=
  .cond (decide ((0 : Int) ≤ x1)) (
    .cond (decide ((0 : Int) ≤ x2)) (
      .ld (x0.add 0) .S fun (s0 : ByteArray) =>
      .cond (decide (x2 ≤ (↑s0.size : Int))) (
        .ld (x0.add 0) .S fun (s1 : ByteArray) =>
        .ret (.bool (decide (x1 ≤ IntKind.i64.wrap ((↑s1.size : Int) - x2))))) <|
      .ret (.bool false)) <|
    .ret (.bool false)) <|
  .ret (.bool false)
theorem aqueductref04_Memory_May.eq (x0 : Addr) (x1 : Int) (x2 : Int) : trOf Try.prog CC (.o) Try.f59 [.pointer (some x0), .int .i64 x1, .int .i64 x2] = aqueductref04_Memory_May.T x0 x1 x2 := by kernel_rfl
theorem aqueductref04_Memory_May.calls (x0 : Addr) (x1 : Int) (x2 : Int) {R : Ending → World → Prop} {w : World} (h : (aqueductref04_Memory_May.T x0 x1 x2).wp Try.prog R Conts.none w) : Calls Try.prog 59 #[.pointer (some x0), .int .i64 x1, .int .i64 x2] w R :=
  calls_of_tr (args := [.pointer (some x0), .int .i64 x1, .int .i64 x2]) hCC hMO Try.func59 ((aqueductref04_Memory_May.eq x0 x1 x2).symm ▸ h)

/-- (*aqueduct/aqueductref04.Memory).note -/
def aqueductref04_Memory_note.T (x0 : Addr) (x1 : Int) (x2 : Int) (x3 : Bool) : Tr :=
  .bind 0 [] (
    .cond (decide ((0 : Int) < x2)) (
      .tick <|
      .ld (x0.add 2) .L fun (l0 : Sl) =>
      .ld (x0.add 1) .I fun (i1 : Int) =>
      .both (
        .new 121 [] fun (a2 : Addr) =>
        .keep [(x0.add 1, [.int .i64 i1]), (x0.add 2, [.slice l0.a l0.n l0.c])] <|
        .both (
          .sem (Go.Builtin.append_ #[88, 88] (88) #[.slice (some a2) (0) (0), .slice l0.a l0.n l0.c]) .L fun (l3 : Sl) =>
          .keep [(x0.add 1, [.int .i64 i1])] <|
          .new 121 [.int .i64 i1, .int .i64 x1, .int .i64 x2, .bool x3] fun (a4 : Addr) =>
          .sem (Go.Builtin.append_ #[88, 88] (88) #[.slice l3.a l3.n l3.c, .slice (some a4) (1) (1)]) .L fun (l5 : Sl) =>
          .st (x0.add 2) [.slice l5.a l5.n l5.c] <|
          .jmp 0 []) <|
        .new 121 [.int .i64 i1, .int .i64 x1, .int .i64 x2, .bool x3] fun (a6 : Addr) =>
        .keep [(x0.add 2, [.slice l0.a l0.n l0.c])] <|
        .sem (Go.Builtin.append_ #[88, 88] (88) #[.slice (some a2) (0) (0), .slice l0.a l0.n l0.c]) .L fun (l7 : Sl) =>
        .sem (Go.Builtin.append_ #[88, 88] (88) #[.slice l7.a l7.n l7.c, .slice (some a6) (1) (1)]) .L fun (l8 : Sl) =>
        .st (x0.add 2) [.slice l8.a l8.n l8.c] <|
        .jmp 0 []) <|
      .new 121 [.int .i64 i1, .int .i64 x1, .int .i64 x2, .bool x3] fun (a9 : Addr) =>
      .keep [(x0.add 2, [.slice l0.a l0.n l0.c])] <|
      .new 121 [] fun (a10 : Addr) =>
      .keep [(x0.add 2, [.slice l0.a l0.n l0.c])] <|
      .sem (Go.Builtin.append_ #[88, 88] (88) #[.slice (some a10) (0) (0), .slice l0.a l0.n l0.c]) .L fun (l11 : Sl) =>
      .sem (Go.Builtin.append_ #[88, 88] (88) #[.slice l11.a l11.n l11.c, .slice (some a9) (1) (1)]) .L fun (l12 : Sl) =>
      .st (x0.add 2) [.slice l12.a l12.n l12.c] <|
      .jmp 0 []) <|
    .jmp 0 []) fun (u13 : Unit) =>
  .ld (x0.add 2) .L fun (l14 : Sl) =>
  .cond (decide ((4096 : Int) < (↑l14.n : Int))) (
    .ld (x0.add 2) .L fun (l15 : Sl) =>
    .need ((0 : Int) ≤ (1 : Int) ∧ (1 : Int) ≤ (↑l15.n : Int)) <|
    .st (x0.add 2) [.slice (slB l15.a (Int.toNat (1 : Int)) 4 l15.c) (l15.n - Int.toNat (1 : Int)) (l15.c - Int.toNat (1 : Int))] <|
    .ret (.tuple #[])) <|
  .ret (.tuple #[])
theorem aqueductref04_Memory_note.eq (x0 : Addr) (x1 : Int) (x2 : Int) (x3 : Bool) : trOf Try.prog CC (.join [] [] .o .o) Try.f60 [.pointer (some x0), .int .i64 x1, .int .i64 x2, .bool x3] = aqueductref04_Memory_note.T x0 x1 x2 x3 := by kernel_rfl
theorem aqueductref04_Memory_note.calls (x0 : Addr) (x1 : Int) (x2 : Int) (x3 : Bool) {R : Ending → World → Prop} {w : World} (h : (aqueductref04_Memory_note.T x0 x1 x2 x3).wp Try.prog R Conts.none w) : Calls Try.prog 60 #[.pointer (some x0), .int .i64 x1, .int .i64 x2, .bool x3] w R :=
  calls_of_tr (args := [.pointer (some x0), .int .i64 x1, .int .i64 x2, .bool x3]) hCC hMO Try.func60 ((aqueductref04_Memory_note.eq x0 x1 x2 x3).symm ▸ h)

/-- aqueduct/aqueductref14.Check -/
def aqueductref14_Check.T (x0 : Addr) (x1 : Int × Int × Int × Int × PUnit) : Tr :=
  .new 23 [.int .i64 x1.1, .int .i64 x1.2.1, .int .i64 x1.2.2.1, .int .i64 x1.2.2.2.1] fun (a0 : Addr) =>
  .ld (a0.add 1) .I fun (i1 : Int) =>
  .cond (decide (i1 < (1 : Int))) (
    .ret (.int .i64 140)) <|
  .ld (a0.add 1) .I fun (i2 : Int) =>
  .cond (decide ((32768 : Int) < i2)) (
    .ret (.int .i64 140)) <|
  .ld (a0.add 0) .I fun (i3 : Int) =>
  .need ((16 : Int) ≠ (0 : Int)) <|
  .cond (!decide (i3.tmod (16 : Int) = (0 : Int))) (
    .ret (.int .i64 140)) <|
  .ld (a0.add 2) .I fun (i4 : Int) =>
  .need ((4 : Int) ≠ (0 : Int)) <|
  .cond (!decide (i4.tmod (4 : Int) = (0 : Int))) (
    .ret (.int .i64 140)) <|
  .ld (a0.add 3) .I fun (i5 : Int) =>
  .need ((4 : Int) ≠ (0 : Int)) <|
  .cond (!decide (i5.tmod (4 : Int) = (0 : Int))) (
    .ret (.int .i64 140)) <|
  .ld (a0.add 0) .I fun (i6 : Int) =>
  .ld (a0.add 1) .I fun (i7 : Int) =>
  .call 59 #[.pointer (some x0), .int .i64 i6, .int .i64 (IntKind.i64.wrap ((16 : Int) * i7))] .B fun (b8 : Bool) =>
  .cond (!b8) (
    .ret (.int .i64 140)) <|
  .ld (a0.add 2) .I fun (i9 : Int) =>
  .call 59 #[.pointer (some x0), .int .i64 i9, .int .i64 4] .B fun (b10 : Bool) =>
  .cond (!b10) (
    .ret (.int .i64 140)) <|
  .ld (a0.add 3) .I fun (i11 : Int) =>
  .call 59 #[.pointer (some x0), .int .i64 i11, .int .i64 4] .B fun (b12 : Bool) =>
  .cond (!b12) (
    .ret (.int .i64 140)) <|
  .ret (.int .i64 0)
theorem aqueductref14_Check.eq (x0 : Addr) (x1 : Int × Int × Int × Int × PUnit) : trOf Try.prog CC (.o) Try.f61 [.pointer (some x0), .agg #[.int .i64 x1.fst, .int .i64 x1.snd.fst, .int .i64 x1.snd.snd.fst, .int .i64 x1.snd.snd.snd.fst]] = aqueductref14_Check.T x0 x1 := by kernel_rfl
theorem aqueductref14_Check.calls (x0 : Addr) (x1 : Int × Int × Int × Int × PUnit) {R : Ending → World → Prop} {w : World} (h : (aqueductref14_Check.T x0 x1).wp Try.prog R Conts.none w) : Calls Try.prog 61 #[.pointer (some x0), .agg #[.int .i64 x1.fst, .int .i64 x1.snd.fst, .int .i64 x1.snd.snd.fst, .int .i64 x1.snd.snd.snd.fst]] w R :=
  calls_of_tr (args := [.pointer (some x0), .agg #[.int .i64 x1.fst, .int .i64 x1.snd.fst, .int .i64 x1.snd.snd.fst, .int .i64 x1.snd.snd.snd.fst]]) hCC hMO Try.func61 ((aqueductref14_Check.eq x0 x1).symm ▸ h)

/-- slices.Sort[[]int,int] -/
def slices_Sort_intint.T (x0 : Sl) : Tr :=
  .call 84 #[.int .u64 (IntKind.u64.wrap (↑x0.n : Int))] .I fun (i0 : Int) =>
  .call 83 #[.slice x0.a x0.n x0.c, .int .i64 0, .int .i64 ((↑x0.n : Int)), .int .i64 i0] (.tup []) fun (u1 : Unit) =>
  .ret (.tuple #[])
theorem slices_Sort_intint.eq (x0 : Sl) : trOf Try.prog CC (.o) Try.f63 [.slice x0.a x0.n x0.c] = slices_Sort_intint.T x0 := by kernel_rfl
theorem slices_Sort_intint.calls (x0 : Sl) {R : Ending → World → Prop} {w : World} (h : (slices_Sort_intint.T x0).wp Try.prog R Conts.none w) : Calls Try.prog 63 #[.slice x0.a x0.n x0.c] w R :=
  calls_of_tr (args := [.slice x0.a x0.n x0.c]) hCC hMO Try.func63 ((slices_Sort_intint.eq x0).symm ▸ h)

/-- aqueduct/gmem.sized -/
def gmem_sized.T (x0 : Int) : Tr :=
  .cond (decide (x0 = (1 : Int))) (
    .ret (.bool true)) <|
  .cond (decide (x0 = (2 : Int))) (
    .ret (.bool true)) <|
  .cond (decide (x0 = (4 : Int))) (
    .ret (.bool true)) <|
  .ret (.bool (decide (x0 = (8 : Int))))
theorem gmem_sized.eq (x0 : Int) : trOf Try.prog CC (.o) Try.f65 [.int .i64 x0] = gmem_sized.T x0 := by kernel_rfl
theorem gmem_sized.calls (x0 : Int) {R : Ending → World → Prop} {w : World} (h : (gmem_sized.T x0).wp Try.prog R Conts.none w) : Calls Try.prog 65 #[.int .i64 x0] w R :=
  calls_of_tr (args := [.int .i64 x0]) hCC hMO Try.func65 ((gmem_sized.eq x0).symm ▸ h)

/-- aqueduct/words.Put -/
def words_Put.T (x0 : Int) (x1 : Int) (x2 : Bool) : Tr :=
  .call 85 #[.int .u64 x0, .int .i64 x1] .B fun (b0 : Bool) =>
  .cond (!b0) (
    .ret (.tuple #[.string (ByteArray.mk #[]), .int .i64 1])) <|
  .sem (Go.Instr.makeSlice (85) (.int .i64 x1) (.int .i64 x1)) .L fun (l1 : Sl) =>
  .loop 0 [.I] (((0 : Int), ())) fun (r2 : Int × Unit) =>
    .cond (decide (r2.1 < x1)) (
      .need ((0 : Int) ≤ IntKind.i64.wrap ((8 : Int) * r2.1)) <|
      .need ((0 : Int) ≤ IntKind.i64.wrap (IntKind.i64.wrap (x1 - (1 : Int)) - r2.1) ∧ IntKind.i64.wrap (IntKind.i64.wrap (x1 - (1 : Int)) - r2.1) < (↑l1.n : Int)) <|
      .nil l1.a fun (a3 : Addr) =>
      .st (a3.add ((IntKind.i64.wrap (IntKind.i64.wrap (x1 - (1 : Int)) - r2.1)).toNat * 1)) [.int .u8 (IntKind.u8.wrap (bshr IntKind.u64 x0 (IntKind.i64.wrap ((8 : Int) * r2.1))))] <|
      .jmp 0 [.int .i64 (IntKind.i64.wrap (r2.1 + (1 : Int)))]) <|
    .cond (!x2) (
      .sem (Go.convert (85) (9) (.slice l1.a l1.n l1.c)) .S fun (s4 : ByteArray) =>
      .call 86 #[.string s4] .S fun (s5 : ByteArray) =>
      .ret (.tuple #[.string s5, .int .i64 0])) <|
    .sem (Go.convert (85) (9) (.slice l1.a l1.n l1.c)) .S fun (s6 : ByteArray) =>
    .ret (.tuple #[.string s6, .int .i64 0])
theorem words_Put.eq (x0 : Int) (x1 : Int) (x2 : Bool) : trOf Try.prog CC (.seq .o (.seq .o (.seq .o (.seq (.seq .o (.seq (.loop [17] [.sc (.int .i64)] .o) .o)) .o)))) Try.f66 [.int .u64 x0, .int .i64 x1, .bool x2] = words_Put.T x0 x1 x2 := by kernel_rfl
theorem words_Put.calls (x0 : Int) (x1 : Int) (x2 : Bool) {R : Ending → World → Prop} {w : World} (h : (words_Put.T x0 x1 x2).wp Try.prog R Conts.none w) : Calls Try.prog 66 #[.int .u64 x0, .int .i64 x1, .bool x2] w R :=
  calls_of_tr (args := [.int .u64 x0, .int .i64 x1, .bool x2]) hCC hMO Try.func66 ((words_Put.eq x0 x1 x2).symm ▸ h)

/-- aqueduct/spot.Check -/
def spot_Check.T (x0 : Int × Bool × PUnit) (x1 : Int) : Tr :=
  .new 42 [.int .i64 x0.1, .bool x0.2.1] fun (a0 : Addr) =>
  .cond (decide (x1 < (1 : Int))) (
    .ret (.int .i64 130)) <|
  .cond (decide ((32768 : Int) < x1)) (
    .ret (.int .i64 130)) <|
  .ld (a0.add 0) .I fun (i1 : Int) =>
  .cond (decide (i1 < (0 : Int))) (
    .ret (.int .i64 1)) <|
  .ld (a0.add 0) .I fun (i2 : Int) =>
  .cond (decide (x1 ≤ i2)) (
    .ret (.int .i64 1)) <|
  .ret (.int .i64 0)
theorem spot_Check.eq (x0 : Int × Bool × PUnit) (x1 : Int) : trOf Try.prog CC (.o) Try.f67 [.agg #[.int .i64 x0.fst, .bool x0.snd.fst], .int .i64 x1] = spot_Check.T x0 x1 := by kernel_rfl
theorem spot_Check.calls (x0 : Int × Bool × PUnit) (x1 : Int) {R : Ending → World → Prop} {w : World} (h : (spot_Check.T x0 x1).wp Try.prog R Conts.none w) : Calls Try.prog 67 #[.agg #[.int .i64 x0.fst, .bool x0.snd.fst], .int .i64 x1] w R :=
  calls_of_tr (args := [.agg #[.int .i64 x0.fst, .bool x0.snd.fst], .int .i64 x1]) hCC hMO Try.func67 ((spot_Check.eq x0 x1).symm ▸ h)

/-- aqueduct/desc.Parse$1 -/
def desc_Parse_1.T (x0 : Int) (x1 : Int) (x2 : Addr) : Tr :=
  .ld x2 .S fun (s0 : ByteArray) =>
  .call 69 #[.string s0, .int .i64 x0, .int .i64 x1, .bool false] (.tup [.U64, .I]) fun (r1 : Int × Int × Unit) =>
  .ret (.int .u64 r1.1)
theorem desc_Parse_1.eq (x0 : Int) (x1 : Int) (x2 : Addr) : trOf Try.prog CC (.o) Try.f68 [.int .i64 x0, .int .i64 x1, .pointer (some x2)] = desc_Parse_1.T x0 x1 x2 := by kernel_rfl
theorem desc_Parse_1.calls (x0 : Int) (x1 : Int) (x2 : Addr) {R : Ending → World → Prop} {w : World} (h : (desc_Parse_1.T x0 x1 x2).wp Try.prog R Conts.none w) : Calls Try.prog 68 #[.int .i64 x0, .int .i64 x1, .pointer (some x2)] w R :=
  calls_of_tr (args := [.int .i64 x0, .int .i64 x1, .pointer (some x2)]) hCC hMO Try.func68 ((desc_Parse_1.eq x0 x1 x2).symm ▸ h)

/-- aqueduct/words.Get -/
def words_Get.T (x0 : ByteArray) (x1 : Int) (x2 : Int) (x3 : Bool) : Tr :=
  .cond (decide (x2 < (1 : Int))) (
    .ret (.tuple #[.int .u64 0, .int .i64 1])) <|
  .cond (decide ((8 : Int) < x2)) (
    .ret (.tuple #[.int .u64 0, .int .i64 1])) <|
  .cond (decide (x1 < (0 : Int))) (
    .ret (.tuple #[.int .u64 0, .int .i64 10])) <|
  .cond (decide (IntKind.i64.wrap ((↑x0.size : Int) - x2) < x1)) (
    .ret (.tuple #[.int .u64 0, .int .i64 10])) <|
  .need ((0 : Int) ≤ IntKind.i64.wrap (x1 + x2) ∧ IntKind.i64.wrap (x1 + x2) ≤ (↑x0.size : Int) ∧ (0 : Int) ≤ x1 ∧ x1 ≤ IntKind.i64.wrap (x1 + x2)) <|
  .bind 0 [.S] (
    .cond (!x3) (
      .call 86 #[.string (x0.extract x1.toNat (IntKind.i64.wrap (x1 + x2)).toNat)] .S fun (s0 : ByteArray) =>
      .jmp 0 [.string s0]) <|
    .jmp 0 [.string (x0.extract x1.toNat (IntKind.i64.wrap (x1 + x2)).toNat)]) fun (r1 : ByteArray × Unit) =>
  .loop 0 [.U64, .I] (((0 : Int), (0 : Int), ())) fun (r2 : Int × Int × Unit) =>
    .cond (decide (r2.2.1 < x2)) (
      .need ((0 : Int) ≤ (8 : Int)) <|
      .need ((0 : Int) ≤ r2.2.1 ∧ r2.2.1 < (↑(ByteArray.size r1.1) : Int)) <|
      .jmp 0 [.int .u64 (bor IntKind.u64 (bshl IntKind.u64 r2.1 (8 : Int)) (IntKind.u64.wrap (bt r1.1 r2.2.1))), .int .i64 (IntKind.i64.wrap (r2.2.1 + (1 : Int)))]) <|
    .ret (.tuple #[.int .u64 r2.1, .int .i64 0])
theorem words_Get.eq (x0 : ByteArray) (x1 : Int) (x2 : Int) (x3 : Bool) : trOf Try.prog CC (.seq .o (.seq .o (.seq .o (.join [0] [.sc .str] .o (.seq .o (.seq (.seq .o (.seq (.loop [10, 41] [.sc (.int .u64), .sc (.int .i64)] .o) .o)) .o)))))) Try.f69 [.string x0, .int .i64 x1, .int .i64 x2, .bool x3] = words_Get.T x0 x1 x2 x3 := by kernel_rfl
theorem words_Get.calls (x0 : ByteArray) (x1 : Int) (x2 : Int) (x3 : Bool) {R : Ending → World → Prop} {w : World} (h : (words_Get.T x0 x1 x2 x3).wp Try.prog R Conts.none w) : Calls Try.prog 69 #[.string x0, .int .i64 x1, .int .i64 x2, .bool x3] w R :=
  calls_of_tr (args := [.string x0, .int .i64 x1, .int .i64 x2, .bool x3]) hCC hMO Try.func69 ((words_Get.eq x0 x1 x2 x3).symm ▸ h)

/-- aqueduct/desc.says -/
def desc_says.T (x0 : Int) (x1 : Bool) : Tr :=
  .cond ((!decide (band IntKind.i64 x0 (128 : Int) = (0 : Int))) == !decide (band IntKind.i64 x0 (32768 : Int) = (0 : Int))) (
    .cond ((!decide (band IntKind.i64 x0 (128 : Int) = (0 : Int))) == x1) (
      .ret (.int .i64 2)) <|
    .cond (!(!decide (band IntKind.i64 x0 (128 : Int) = (0 : Int))) == !decide (band IntKind.i64 x0 (32768 : Int) = (0 : Int))) (
      .cond ((!decide (band IntKind.i64 x0 (128 : Int) = (0 : Int))) == x1) (
        .ret (.int .i64 1)) <|
      .ret (.int .i64 0)) <|
    .ret (.int .i64 0)) <|
  .cond (!(!decide (band IntKind.i64 x0 (128 : Int) = (0 : Int))) == !decide (band IntKind.i64 x0 (32768 : Int) = (0 : Int))) (
    .cond ((!decide (band IntKind.i64 x0 (128 : Int) = (0 : Int))) == x1) (
      .ret (.int .i64 1)) <|
    .ret (.int .i64 0)) <|
  .ret (.int .i64 0)
theorem desc_says.eq (x0 : Int) (x1 : Bool) : trOf Try.prog CC (.o) Try.f70 [.int .i64 x0, .bool x1] = desc_says.T x0 x1 := by kernel_rfl
theorem desc_says.calls (x0 : Int) (x1 : Bool) {R : Ending → World → Prop} {w : World} (h : (desc_says.T x0 x1).wp Try.prog R Conts.none w) : Calls Try.prog 70 #[.int .i64 x0, .bool x1] w R :=
  calls_of_tr (args := [.int .i64 x0, .bool x1]) hCC hMO Try.func70 ((desc_says.eq x0 x1).symm ▸ h)

/-- aqueduct/aqueductref01.Put -/
def aqueductref01_Put.T (x0 : Int) (x1 : Int) (x2 : Bool) : Tr :=
  .cond (decide (x1 < (1 : Int))) (
    .ret (.tuple #[.string (ByteArray.mk #[]), .int .i64 1])) <|
  .cond (decide ((8 : Int) < x1)) (
    .ret (.tuple #[.string (ByteArray.mk #[]), .int .i64 1])) <|
  .loop 0 [.U64, .S, .S, .I] ((x0, ByteArray.mk #[], ByteArray.mk #[], (0 : Int), ())) fun (r0 : Int × ByteArray × ByteArray × Int × Unit) =>
    .cond (decide (r0.2.2.2.1 < x1)) (
      .need ((256 : Int) ≠ (0 : Int)) <|
      .new 5 [.int .u8 (IntKind.u8.wrap (Int.tmod r0.1 (256 : Int)))] fun (a1 : Addr) =>
      .sem (Go.convert (85) (9) (.slice (some a1) (1) (1))) .S fun (s2 : ByteArray) =>
      .need (ByteArray.size r0.2.1 + s2.size ≤ 9223372036854775807) <|
      .need (s2.size + ByteArray.size r0.2.2.1 ≤ 9223372036854775807) <|
      .need ((256 : Int) ≠ (0 : Int)) <|
      .jmp 0 [.int .u64 (IntKind.u64.wrap (Int.tdiv r0.1 (256 : Int))), .string (r0.2.1 ++ s2), .string (s2 ++ r0.2.2.1), .int .i64 (IntKind.i64.wrap (r0.2.2.2.1 + (1 : Int)))]) <|
    .cond (decide ((0 : Int) < r0.1)) (
      .ret (.tuple #[.string (ByteArray.mk #[]), .int .i64 1])) <|
    .cond x2 (
      .ret (.tuple #[.string r0.2.2.1, .int .i64 0])) <|
    .ret (.tuple #[.string r0.2.1, .int .i64 0])
theorem aqueductref01_Put.eq (x0 : Int) (x1 : Int) (x2 : Bool) : trOf Try.prog CC (.seq .o (.seq .o (.seq .o (.seq (.seq .o (.seq (.loop [0, 8, 9, 10] [.sc (.int .u64), .sc .str, .sc .str, .sc (.int .i64)] .o) .o)) .o)))) Try.f71 [.int .u64 x0, .int .i64 x1, .bool x2] = aqueductref01_Put.T x0 x1 x2 := by kernel_rfl
theorem aqueductref01_Put.calls (x0 : Int) (x1 : Int) (x2 : Bool) {R : Ending → World → Prop} {w : World} (h : (aqueductref01_Put.T x0 x1 x2).wp Try.prog R Conts.none w) : Calls Try.prog 71 #[.int .u64 x0, .int .i64 x1, .bool x2] w R :=
  calls_of_tr (args := [.int .u64 x0, .int .i64 x1, .bool x2]) hCC hMO Try.func71 ((aqueductref01_Put.eq x0 x1 x2).symm ▸ h)

/-- aqueduct/devq.must -/
def devq_must.T (x0 : Bool) : Tr :=
  .cond (!x0) (
    .pan (.iface (128) (.agg #[]))) <|
  .ret (.tuple #[])
theorem devq_must.eq (x0 : Bool) : trOf Try.prog CC (.o) Try.f79 [.bool x0] = devq_must.T x0 := by kernel_rfl
theorem devq_must.calls (x0 : Bool) {R : Ending → World → Prop} {w : World} (h : (devq_must.T x0).wp Try.prog R Conts.none w) : Calls Try.prog 79 #[.bool x0] w R :=
  calls_of_tr (args := [.bool x0]) hCC hMO Try.func79 ((devq_must.eq x0).symm ▸ h)

/-- (*aqueduct/devq.Queue).table -/
def devq_Queue_table.T (x0 : Addr) (x1 : Int × Int × Int × Int × PUnit) : Tr :=
  .new 110 [.int .u64 x1.1, .int .u32 x1.2.1, .int .i64 x1.2.2.1, .int .i64 x1.2.2.2.1] fun (a0 : Addr) =>
  .ld (a0.add 1) .U32 fun (i1 : Int) =>
  .bind 0 [] (
    .tick <|
    .ld (a0.add 1) .U32 fun (i2 : Int) =>
    .cond (decide (i2 ≤ (1024 : Int))) (
      .cond (decide ((0 : Int) < IntKind.i64.wrap i1)) (
        .need ((16 : Int) ≠ (0 : Int)) <|
        .cond (decide ((IntKind.i64.wrap i1).tmod (16 : Int) = (0 : Int))) (
          .ld (a0.add 0) .U64 fun (i3 : Int) =>
          .cond (decide (i3 < (1048576 : Int))) (
            .ld (x0.add 0) .P fun (p4 : Option Addr) =>
            .ld (a0.add 0) .U64 fun (i5 : Int) =>
            .calln 45 #[.pointer p4, .int .i64 (IntKind.i64.wrap i5), .int .i64 (IntKind.i64.wrap i1)] .B fun (b6 : Bool) =>
            .keep [(a0.add 1, [.int .u32 i2])] <|
            .calln 79 #[.bool b6] (.tup []) fun (u7 : Unit) =>
            .keep [(a0.add 1, [.int .u32 i2])] <|
            .jmp 0 []) <|
          .calln 79 #[.bool false] (.tup []) fun (u8 : Unit) =>
          .keep [(a0.add 0, [.int .u64 i3]), (a0.add 1, [.int .u32 i2])] <|
          .jmp 0 []) <|
        .calln 79 #[.bool false] (.tup []) fun (u9 : Unit) =>
        .keep [(a0.add 1, [.int .u32 i2])] <|
        .jmp 0 []) <|
      .calln 79 #[.bool false] (.tup []) fun (u10 : Unit) =>
      .keep [(a0.add 1, [.int .u32 i2])] <|
      .jmp 0 []) <|
    .calln 79 #[.bool false] (.tup []) fun (u11 : Unit) =>
    .keep [(a0.add 1, [.int .u32 i2])] <|
    .jmp 0 []) fun (u12 : Unit) =>
  .loop 0 [.L, .I] ((Sl.mk none 0 0, (0 : Int), ())) fun (r13 : Sl × Int × Unit) =>
    .cond (decide (r13.2.1 < IntKind.i64.wrap i1)) (
      .ld (a0.add 0) .U64 fun (i14 : Int) =>
      .call 55 #[.pointer (some x0), .int .i64 (IntKind.i64.wrap (IntKind.i64.wrap i14 + r13.2.1))] (.one (.agg [.U64, .U32, .I, .I])) fun (r15 : Int × Int × Int × Int × Unit) =>
      .new 110 [.int .u64 0, .int .u32 0, .int .i64 0, .int .i64 0] fun (a16 : Addr) =>
      .st a16 [.int .u64 r15.1, .int .u32 r15.2.1, .int .i64 r15.2.2.1, .int .i64 r15.2.2.2.1] <|
      .ld (a16.add 3) .I fun (i17 : Int) =>
      .call 79 #[.bool (decide (band IntKind.i64 i17 (4 : Int) = (0 : Int)))] (.tup []) fun (u18 : Unit) =>
      .ld a16 (.agg [.U64, .U32, .I, .I]) fun (r19 : Int × Int × Int × Int × Unit) =>
      .new 110 [.int .u64 r19.1, .int .u32 r19.2.1, .int .i64 r19.2.2.1, .int .i64 r19.2.2.2.1] fun (a20 : Addr) =>
      .sem (Go.Builtin.append_ #[156, 156] (156) #[.slice r13.1.a r13.1.n r13.1.c, .slice (some a20) (1) (1)]) .L fun (l21 : Sl) =>
      .jmp 0 [.slice l21.a l21.n l21.c, .int .i64 (IntKind.i64.wrap (r13.2.1 + (16 : Int)))]) <|
    .ret (.slice r13.1.a r13.1.n r13.1.c)
theorem devq_Queue_table.eq (x0 : Addr) (x1 : Int × Int × Int × Int × PUnit) : trOf Try.prog CC (.seq .o (.seq .o (.join [] [] .o (.seq .o (.seq (.seq .o (.seq (.loop [6, 7] [.sc .slc, .sc (.int .i64)] .o) .o)) .o))))) Try.f80 [.pointer (some x0), .agg #[.int .u64 x1.fst, .int .u32 x1.snd.fst, .int .i64 x1.snd.snd.fst, .int .i64 x1.snd.snd.snd.fst]] = devq_Queue_table.T x0 x1 := by kernel_rfl
theorem devq_Queue_table.calls (x0 : Addr) (x1 : Int × Int × Int × Int × PUnit) {R : Ending → World → Prop} {w : World} (h : (devq_Queue_table.T x0 x1).wp Try.prog R Conts.none w) : Calls Try.prog 80 #[.pointer (some x0), .agg #[.int .u64 x1.fst, .int .u32 x1.snd.fst, .int .i64 x1.snd.snd.fst, .int .i64 x1.snd.snd.snd.fst]] w R :=
  calls_of_tr (args := [.pointer (some x0), .agg #[.int .u64 x1.fst, .int .u32 x1.snd.fst, .int .i64 x1.snd.snd.fst, .int .i64 x1.snd.snd.snd.fst]]) hCC hMO Try.func80 ((devq_Queue_table.eq x0 x1).symm ▸ h)

/-- (*aqueduct/devq.Queue).part -/
def devq_Queue_part.T (x0 : Addr) (x1 : Int × Int × Int × Int × PUnit) : Tr :=
  .new 110 [.int .u64 x1.1, .int .u32 x1.2.1, .int .i64 x1.2.2.1, .int .i64 x1.2.2.2.1] fun (a0 : Addr) =>
  .new 56 [.int .i64 0, .int .i64 0, .bool false] fun (a1 : Addr) =>
  .bind 0 [] (
    .ld (a0.add 0) .U64 fun (i2 : Int) =>
    .cond (decide (i2 < (1048576 : Int))) (
      .ld (a0.add 1) .U32 fun (i3 : Int) =>
      .cond (decide ((0 : Int) < i3)) (
        .ld (a0.add 1) .U32 fun (i4 : Int) =>
        .call 79 #[.bool (decide (i4 ≤ (1048576 : Int)))] (.tup []) fun (u5 : Unit) =>
        .jmp 0 []) <|
      .call 79 #[.bool false] (.tup []) fun (u6 : Unit) =>
      .jmp 0 []) <|
    .call 79 #[.bool false] (.tup []) fun (u7 : Unit) =>
    .jmp 0 []) fun (u8 : Unit) =>
  .ld (a0.add 0) .U64 fun (i9 : Int) =>
  .ld (a0.add 1) .U32 fun (i10 : Int) =>
  .ld (a0.add 3) .I fun (i11 : Int) =>
  .new 56 [.int .i64 0, .int .i64 0, .bool false] fun (a12 : Addr) =>
  .st a12 [.int .i64 (IntKind.i64.wrap i9), .int .i64 (IntKind.i64.wrap i10), .bool (!decide (band IntKind.i64 i11 (2 : Int) = (0 : Int)))] <|
  .tick <|
  .ld (x0.add 0) .P fun (p13 : Option Addr) =>
  .ld (a12.add 0) .I fun (i14 : Int) =>
  .ld (a12.add 1) .I fun (i15 : Int) =>
  .calln 45 #[.pointer p13, .int .i64 i14, .int .i64 i15] .B fun (b16 : Bool) =>
  .calln 79 #[.bool b16] (.tup []) fun (u17 : Unit) =>
  .ld a12 (.agg [.I, .I, .bool]) fun (r18 : Int × Int × Bool × Unit) =>
  .st a1 [.int .i64 r18.1, .int .i64 r18.2.1, .bool r18.2.2.1] <|
  .ld a1 (.agg [.I, .I, .bool]) fun (r19 : Int × Int × Bool × Unit) =>
  .ret (.agg #[.int .i64 r19.1, .int .i64 r19.2.1, .bool r19.2.2.1])
theorem devq_Queue_part.eq (x0 : Addr) (x1 : Int × Int × Int × Int × PUnit) : trOf Try.prog CC (.seq .o (.join [] [] .o .o)) Try.f81 [.pointer (some x0), .agg #[.int .u64 x1.fst, .int .u32 x1.snd.fst, .int .i64 x1.snd.snd.fst, .int .i64 x1.snd.snd.snd.fst]] = devq_Queue_part.T x0 x1 := by kernel_rfl
theorem devq_Queue_part.calls (x0 : Addr) (x1 : Int × Int × Int × Int × PUnit) {R : Ending → World → Prop} {w : World} (h : (devq_Queue_part.T x0 x1).wp Try.prog R Conts.none w) : Calls Try.prog 81 #[.pointer (some x0), .agg #[.int .u64 x1.fst, .int .u32 x1.snd.fst, .int .i64 x1.snd.snd.fst, .int .i64 x1.snd.snd.snd.fst]] w R :=
  calls_of_tr (args := [.pointer (some x0), .agg #[.int .u64 x1.fst, .int .u32 x1.snd.fst, .int .i64 x1.snd.snd.fst, .int .i64 x1.snd.snd.snd.fst]]) hCC hMO Try.func81 ((devq_Queue_part.eq x0 x1).symm ▸ h)

/-- aqueduct/words.may -/
def words_may.T (x0 : Int) (x1 : Int) : Tr :=
  .cond (decide ((1 : Int) ≤ x1)) (
    .cond (decide (x1 ≤ (8 : Int))) (
      .cond (decide (x1 = (8 : Int))) (
        .ret (.bool true)) <|
      .need ((0 : Int) ≤ IntKind.i64.wrap ((8 : Int) * x1)) <|
      .ret (.bool (decide (bshr IntKind.u64 x0 (IntKind.i64.wrap ((8 : Int) * x1)) = (0 : Int))))) <|
    .ret (.bool false)) <|
  .ret (.bool false)
theorem words_may.eq (x0 : Int) (x1 : Int) : trOf Try.prog CC (.o) Try.f85 [.int .u64 x0, .int .i64 x1] = words_may.T x0 x1 := by kernel_rfl
theorem words_may.calls (x0 : Int) (x1 : Int) {R : Ending → World → Prop} {w : World} (h : (words_may.T x0 x1).wp Try.prog R Conts.none w) : Calls Try.prog 85 #[.int .u64 x0, .int .i64 x1] w R :=
  calls_of_tr (args := [.int .u64 x0, .int .i64 x1]) hCC hMO Try.func85 ((words_may.eq x0 x1).symm ▸ h)

/-- aqueduct/words.Turn -/
def words_Turn.T (x0 : ByteArray) : Tr :=
  .sem (Go.Instr.makeSlice (85) (.int .i64 ((↑x0.size : Int))) (.int .i64 ((↑x0.size : Int)))) .L fun (l0 : Sl) =>
  .loop 0 [.I] (((0 : Int), ())) fun (r1 : Int × Unit) =>
    .cond (decide (r1.1 < (↑x0.size : Int))) (
      .need ((0 : Int) ≤ r1.1 ∧ r1.1 < (↑x0.size : Int)) <|
      .need ((0 : Int) ≤ IntKind.i64.wrap (IntKind.i64.wrap ((↑x0.size : Int) - (1 : Int)) - r1.1) ∧ IntKind.i64.wrap (IntKind.i64.wrap ((↑x0.size : Int) - (1 : Int)) - r1.1) < (↑l0.n : Int)) <|
      .nil l0.a fun (a2 : Addr) =>
      .st (a2.add ((IntKind.i64.wrap (IntKind.i64.wrap ((↑x0.size : Int) - (1 : Int)) - r1.1)).toNat * 1)) [.int .u8 (bt x0 r1.1)] <|
      .jmp 0 [.int .i64 (IntKind.i64.wrap (r1.1 + (1 : Int)))]) <|
    .sem (Go.convert (85) (9) (.slice l0.a l0.n l0.c)) .S fun (s3 : ByteArray) =>
    .ret (.string s3)
theorem words_Turn.eq (x0 : ByteArray) : trOf Try.prog CC (.seq .o (.seq .o (.seq (.seq .o (.seq (.loop [10] [.sc (.int .i64)] .o) .o)) .o))) Try.f86 [.string x0] = words_Turn.T x0 := by kernel_rfl
theorem words_Turn.calls (x0 : ByteArray) {R : Ending → World → Prop} {w : World} (h : (words_Turn.T x0).wp Try.prog R Conts.none w) : Calls Try.prog 86 #[.string x0] w R :=
  calls_of_tr (args := [.string x0]) hCC hMO Try.func86 ((words_Turn.eq x0).symm ▸ h)

/-- cmp.Less[int] -/
def cmp_Less_int.T (x0 : Int) (x1 : Int) : Tr :=
  .call 110 #[.int .i64 x0] .B fun (b0 : Bool) =>
  .cond b0 (
    .call 110 #[.int .i64 x1] .B fun (b1 : Bool) =>
    .cond (!b1) (
      .ret (.bool true)) <|
    .ret (.bool (decide (x0 < x1)))) <|
  .ret (.bool (decide (x0 < x1)))
theorem cmp_Less_int.eq (x0 : Int) (x1 : Int) : trOf Try.prog CC (.o) Try.f98 [.int .i64 x0, .int .i64 x1] = cmp_Less_int.T x0 x1 := by kernel_rfl
theorem cmp_Less_int.calls (x0 : Int) (x1 : Int) {R : Ending → World → Prop} {w : World} (h : (cmp_Less_int.T x0 x1).wp Try.prog R Conts.none w) : Calls Try.prog 98 #[.int .i64 x0, .int .i64 x1] w R :=
  calls_of_tr (args := [.int .i64 x0, .int .i64 x1]) hCC hMO Try.func98 ((cmp_Less_int.eq x0 x1).symm ▸ h)

/-- cmp.isNaN[int] -/
def cmp_isNaN_int.T (x0 : Int) : Tr :=
  .ret (.bool (!decide (x0 = x0)))
theorem cmp_isNaN_int.eq (x0 : Int) : trOf Try.prog CC (.o) Try.f110 [.int .i64 x0] = cmp_isNaN_int.T x0 := by kernel_rfl
theorem cmp_isNaN_int.calls (x0 : Int) {R : Ending → World → Prop} {w : World} (h : (cmp_isNaN_int.T x0).wp Try.prog R Conts.none w) : Calls Try.prog 110 #[.int .i64 x0] w R :=
  calls_of_tr (args := [.int .i64 x0]) hCC hMO Try.func110 ((cmp_isNaN_int.eq x0).symm ▸ h)

end Go.Proofs.Ythfcneahnldgnaa
