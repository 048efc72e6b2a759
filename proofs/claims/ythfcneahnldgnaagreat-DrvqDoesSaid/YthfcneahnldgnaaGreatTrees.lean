/- Trees: printed by a program of this session's out of the loaded code; each is held against the code by the kernel. -/
import Derived.Test.YthfcneahnldgnaaGreatVkDfr
import Derived.Test.YthfcneahnldgnaaGreatProg
import Derived.KernelRfl
namespace Go.Proofs.YthfcneahnldgnaaGreat
open Go Vk
set_option linter.unusedVariables false
def CC : Nat → Bool := inL [2, 3, 4, 5, 6, 7, 8, 9, 10, 11, 12, 13, 14, 15, 16, 17, 18, 19, 20, 21, 22, 23, 24, 25, 26, 27, 28, 29, 30, 31, 32, 33, 34, 35, 36, 37, 38, 39, 40, 41, 42, 43, 44, 45, 46, 47, 48, 49, 50, 51, 52, 53, 54, 55, 56, 57, 58, 59, 60, 61, 62, 63, 64, 65, 66, 67, 68, 69, 70, 71, 72, 74, 75, 76, 77, 78, 79, 80, 81, 82, 83, 84, 85, 86, 87, 88, 89, 90, 91, 92, 93, 94, 97, 98, 99, 100, 101, 102, 103, 104, 105, 106, 107, 108, 109, 110, 111, 112, 113, 114]
theorem hCC : Callable Tryz.prog CC := callable_of (by kernel_rfl)
theorem hMO : Tryz.prog.follows .mixedOrders = true := by kernel_rfl

/-- (*aqueduct/drvq.Queue).Post -/
def drvq_Queue_Post.L0 (x1 : Sl) (a3 : Addr) (x0 : Addr) (i2 : Int) : Tr :=
  .loop 0 [.I, .I] (((0 : Int), (0 : Int), ())) fun (r4 : Int × Int × Unit) =>
      .cond (decide (r4.2.1 < (↑x1.n : Int))) (
        .need ((0 : Int) ≤ r4.2.1 ∧ r4.2.1 < (↑x1.n : Int)) <|
        .nil x1.a fun (a5 : Addr) =>
        .ld (a5.add (Int.toNat r4.2.1 * 3)) (.agg [.I, .I, .bool]) fun (r6 : Int × Int × Bool × Unit) =>
        .new 56 [.int .i64 0, .int .i64 0, .bool false] fun (a7 : Addr) =>
        .st a7 [.int .i64 r6.1, .int .i64 r6.2.1, .bool r6.2.2.1] <|
        .bind 1 [.I] (
          .cond (decide (r4.2.1 < IntKind.i64.wrap ((↑x1.n : Int) - (1 : Int)))) (
            .jmp 1 [.int .i64 (bor IntKind.i64 (0 : Int) (1 : Int))]) <|
          .jmp 1 [.int .i64 0]) fun (r8 : Int × Unit) =>
        .bind 1 [.I] (
          .ld (a7.add 2) .B fun (b9 : Bool) =>
          .cond b9 (
            .jmp 1 [.int .i64 (bor IntKind.i64 r8.1 (2 : Int))]) <|
          .jmp 1 [.int .i64 r8.1]) fun (r10 : Int × Unit) =>
        .ld (a3.add 1) .B fun (b11 : Bool) =>
        .call 29 #[.int .i64 r10.1, .bool b11, .bool false] .I fun (i12 : Int) =>
        .tick <|
        .ld ((x0.add 1).add 0) .I fun (i13 : Int) =>
        .ld (a3.add 0) .I fun (i14 : Int) =>
        .tick <|
        .ld (x0.add 0) .P fun (p15 : Option Addr) =>
        .ld (a7.add 0) .I fun (i16 : Int) =>
        .calln 19 #[.pointer p15, .int .i64 (IntKind.i64.wrap (i13 + IntKind.i64.wrap ((16 : Int) * i14))), .int .i64 8, .int .u64 (IntKind.u64.wrap i16)] .I fun (i17 : Int) =>
        .tick <|
        .ld (x0.add 0) .P fun (p18 : Option Addr) =>
        .ld (a7.add 1) .I fun (i19 : Int) =>
        .calln 19 #[.pointer p18, .int .i64 (IntKind.i64.wrap (IntKind.i64.wrap (i13 + IntKind.i64.wrap ((16 : Int) * i14)) + (8 : Int))), .int .i64 4, .int .u64 (IntKind.u64.wrap i19)] .I fun (i20 : Int) =>
        .ld (x0.add 0) .P fun (p21 : Option Addr) =>
        .call 19 #[.pointer p21, .int .i64 (IntKind.i64.wrap (IntKind.i64.wrap (i13 + IntKind.i64.wrap ((16 : Int) * i14)) + (12 : Int))), .int .i64 2, .int .u64 (IntKind.u64.wrap i2)] .I fun (i22 : Int) =>
        .cond (decide (r4.2.1 = (0 : Int))) (
          .tick <|
          .ld a3 (.agg [.I, .bool]) fun (r23 : Int × Bool × Unit) =>
          .ld ((x0.add 1).add 1) .I fun (i24 : Int) =>
          .calln 30 #[.agg #[.int .i64 r23.1, .bool r23.2.1], .int .i64 1, .int .i64 i24] (.tup [(.agg [.I, .bool]), .I]) fun (r25 : (Int × Bool × Unit) × Int × Unit) =>
          .st a3 [.int .i64 r25.1.1, .bool r25.1.2.1] <|
          .jmp 0 [.int .i64 i12, .int .i64 (IntKind.i64.wrap (r4.2.1 + (1 : Int)))]) <|
        .ld (x0.add 0) .P fun (p26 : Option Addr) =>
        .call 19 #[.pointer p26, .int .i64 (IntKind.i64.wrap (IntKind.i64.wrap (i13 + IntKind.i64.wrap ((16 : Int) * i14)) + (14 : Int))), .int .i64 2, .int .u64 (IntKind.u64.wrap i12)] .I fun (i27 : Int) =>
        .tick <|
        .ld a3 (.agg [.I, .bool]) fun (r28 : Int × Bool × Unit) =>
        .ld ((x0.add 1).add 1) .I fun (i29 : Int) =>
        .calln 30 #[.agg #[.int .i64 r28.1, .bool r28.2.1], .int .i64 1, .int .i64 i29] (.tup [(.agg [.I, .bool]), .I]) fun (r30 : (Int × Bool × Unit) × Int × Unit) =>
        .st a3 [.int .i64 r30.1.1, .bool r30.1.2.1] <|
        .jmp 0 [.int .i64 r4.1, .int .i64 (IntKind.i64.wrap (r4.2.1 + (1 : Int)))]) <|
      .tick <|
      .ld (x0.add 0) .P fun (p31 : Option Addr) =>
      .ld ((x0.add 1).add 0) .I fun (i32 : Int) =>
      .ld ((x0.add 5).add 0) .I fun (i33 : Int) =>
      .calln 19 #[.pointer p31, .int .i64 (IntKind.i64.wrap (IntKind.i64.wrap (i32 + IntKind.i64.wrap ((16 : Int) * i33)) + (14 : Int))), .int .i64 2, .int .u64 (IntKind.u64.wrap r4.1)] .I fun (i34 : Int) =>
      .ld (x0.add 13) .M fun (p35 : Option Nat) =>
      .semU (Go.Instr.mapUpdate (76) (.map p35) (.int .i64 i2) (.int .i64 ((↑x1.n : Int)))) <|
      .ld (x0.add 12) .I fun (i36 : Int) =>
      .st (x0.add 12) [.int .i64 (IntKind.i64.wrap (i36 - (↑x1.n : Int)))] <|
      .ld a3 (.agg [.I, .bool]) fun (r37 : Int × Bool × Unit) =>
      .st (x0.add 5) [.int .i64 r37.1, .bool r37.2.1] <|
      .tick <|
      .ld (x0.add 11) .I fun (i38 : Int) =>
      .ld ((x0.add 1).add 1) .I fun (i39 : Int) =>
      .st (x0.add 11) [.int .i64 (imn (IntKind.i64.wrap (i38 + (↑x1.n : Int))) (IntKind.i64.wrap ((2 : Int) * i39)))] <|
      .ret (.tuple #[.int .i64 i2, .int .i64 0])
def drvq_Queue_Post.T (x0 : Addr) (x1 : Sl) : Tr :=
  .call 27 #[.pointer (some x0), .slice x1.a x1.n x1.c] .I fun (i0 : Int) =>
  .cond (!decide (i0 = (0 : Int))) (
    .ret (.tuple #[.int .i64 0, .int .i64 i0])) <|
  .tick <|
  .ld (x0.add 5) (.agg [.I, .bool]) fun (r1 : Int × Bool × Unit) =>
  .both (
    .calln 28 #[.pointer (some x0)] .I fun (i2 : Int) =>
    .keep [(x0.add 5, [.int .i64 r1.1, .bool r1.2.1])] <|
    .new 44 [.int .i64 0, .bool false] fun (a3 : Addr) =>
    .keep [(x0.add 5, [.int .i64 r1.1, .bool r1.2.1])] <|
    .st a3 [.int .i64 r1.1, .bool r1.2.1] <|
    drvq_Queue_Post.L0 x1 a3 x0 i2) <|
  .new 44 [.int .i64 0, .bool false] fun (a40 : Addr) =>
  .keep [(x0.add 5, [.int .i64 r1.1, .bool r1.2.1])] <|
  .calln 28 #[.pointer (some x0)] .I fun (i41 : Int) =>
  .keep [(x0.add 5, [.int .i64 r1.1, .bool r1.2.1])] <|
  .st a40 [.int .i64 r1.1, .bool r1.2.1] <|
  drvq_Queue_Post.L0 x1 a40 x0 i41
theorem drvq_Queue_Post.eq (x0 : Addr) (x1 : Sl) : trOf Tryz.prog CC (.seq .o (.seq .o (.seq .o (.seq (.seq .o (.seq (.loop [9, 28] [.sc (.int .i64), .sc (.int .i64)] (.seq .o (.seq .o (.seq (.seq (.seq .o (.seq .o (.join [12] [.sc (.int .i64)] .o (.join [12] [.sc (.int .i64)] .o .o)))) .o) .o)))) .o)) .o)))) Tryz.f5 [.pointer (some x0), .slice x1.a x1.n x1.c] = drvq_Queue_Post.T x0 x1 := by kernel_rfl
theorem drvq_Queue_Post.calls (x0 : Addr) (x1 : Sl) {R : Ending → World → Prop} {w : World} (h : (drvq_Queue_Post.T x0 x1).wp Tryz.prog R Conts.none w) : Calls Tryz.prog 5 #[.pointer (some x0), .slice x1.a x1.n x1.c] w R :=
  calls_of_tr (args := [.pointer (some x0), .slice x1.a x1.n x1.c]) hCC hMO Tryz.func5 ((drvq_Queue_Post.eq x0 x1).symm ▸ h)

/-- (*aqueduct/aqueductref15.Queue).Post -/
def aqueductref15_Queue_Post.T (x0 : Addr) (x1 : Sl) : Tr :=
  .bind 0 [.B] (
    .cond (decide ((1 : Int) ≤ (↑x1.n : Int))) (
      .jmp 0 [.bool (decide ((↑x1.n : Int) ≤ (64 : Int)))]) <|
    .jmp 0 [.bool false]) fun (r0 : Bool × Unit) =>
  .loop 0 [.B, .I] ((r0.1, (0 : Int), ())) fun (r1 : Bool × Int × Unit) =>
    .cond (decide (r1.2.1 < (↑x1.n : Int))) (
      .tick <|
      .cond r1.1 (
        .need ((0 : Int) ≤ r1.2.1 ∧ r1.2.1 < (↑x1.n : Int)) <|
        .nil x1.a fun (a2 : Addr) =>
        .ld ((a2.add (Int.toNat r1.2.1 * 3)).add 1) .I fun (i3 : Int) =>
        .cond (decide ((0 : Int) < i3)) (
          .ld (x0.add 0) .P fun (p4 : Option Addr) =>
          .need ((0 : Int) ≤ r1.2.1 ∧ r1.2.1 < (↑x1.n : Int)) <|
          .nil x1.a fun (a5 : Addr) =>
          .ld ((a5.add (Int.toNat r1.2.1 * 3)).add 0) .I fun (i6 : Int) =>
          .need ((0 : Int) ≤ r1.2.1 ∧ r1.2.1 < (↑x1.n : Int)) <|
          .nil x1.a fun (a7 : Addr) =>
          .ld ((a7.add (Int.toNat r1.2.1 * 3)).add 1) .I fun (i8 : Int) =>
          .calln 31 #[.pointer p4, .int .i64 i6, .int .i64 i8] .B fun (b9 : Bool) =>
          .cond b9 (
            .cond (decide (r1.2.1 = (0 : Int))) (
              .jmp 0 [.bool true, .int .i64 (IntKind.i64.wrap (r1.2.1 + (1 : Int)))]) <|
            .need ((0 : Int) ≤ r1.2.1 ∧ r1.2.1 < (↑x1.n : Int)) <|
            .nil x1.a fun (a10 : Addr) =>
            .ld ((a10.add (Int.toNat r1.2.1 * 3)).add 2) .B fun (b11 : Bool) =>
            .cond b11 (
              .jmp 0 [.bool true, .int .i64 (IntKind.i64.wrap (r1.2.1 + (1 : Int)))]) <|
            .need ((0 : Int) ≤ IntKind.i64.wrap (r1.2.1 - (1 : Int)) ∧ IntKind.i64.wrap (r1.2.1 - (1 : Int)) < (↑x1.n : Int)) <|
            .nil x1.a fun (a12 : Addr) =>
            .ld ((a12.add ((IntKind.i64.wrap (r1.2.1 - (1 : Int))).toNat * 3)).add 2) .B fun (b13 : Bool) =>
            .jmp 0 [.bool (!b13), .int .i64 (IntKind.i64.wrap (r1.2.1 + (1 : Int)))]) <|
          .jmp 0 [.bool false, .int .i64 (IntKind.i64.wrap (r1.2.1 + (1 : Int)))]) <|
        .jmp 0 [.bool false, .int .i64 (IntKind.i64.wrap (r1.2.1 + (1 : Int)))]) <|
      .jmp 0 [.bool false, .int .i64 (IntKind.i64.wrap (r1.2.1 + (1 : Int)))]) <|
    .cond (!r1.1) (
      .ret (.tuple #[.int .i64 0, .int .i64 150])) <|
    .call 32 #[.pointer (some x0)] .I fun (i14 : Int) =>
    .cond (decide (i14 < (↑x1.n : Int))) (
      .ret (.tuple #[.int .i64 0, .int .i64 151])) <|
    .loop 0 [.I] (((0 : Int), ())) fun (r15 : Int × Unit) =>
      .ld (x0.add 12) .L fun (l16 : Sl) =>
      .need ((0 : Int) ≤ r15.1 ∧ r15.1 < (↑l16.n : Int)) <|
      .nil l16.a fun (a17 : Addr) =>
      .ld (a17.add (Int.toNat r15.1 * 1)) .I fun (i18 : Int) =>
      .cond (decide ((0 : Int) < i18)) (
        .jmp 0 [.int .i64 (IntKind.i64.wrap (r15.1 + (1 : Int)))]) <|
      .loop 0 [.I] (((0 : Int), ())) fun (r19 : Int × Unit) =>
        .cond (decide (r19.1 < (↑x1.n : Int))) (
          .bind 1 [.I] (
            .cond (decide (r19.1 < IntKind.i64.wrap ((↑x1.n : Int) - (1 : Int)))) (
              .jmp 1 [.int .i64 1]) <|
            .jmp 1 [.int .i64 0]) fun (r20 : Int × Unit) =>
          .bind 1 [.I] (
            .need ((0 : Int) ≤ r19.1 ∧ r19.1 < (↑x1.n : Int)) <|
            .nil x1.a fun (a21 : Addr) =>
            .ld ((a21.add (Int.toNat r19.1 * 3)).add 2) .B fun (b22 : Bool) =>
            .cond b22 (
              .jmp 1 [.int .i64 (IntKind.i64.wrap (r20.1 + (2 : Int)))]) <|
            .jmp 1 [.int .i64 r20.1]) fun (r23 : Int × Unit) =>
          .tick <|
          .ld (x0.add 5) (.agg [.I, .bool]) fun (r24 : Int × Bool × Unit) =>
          .ld ((x0.add 1).add 1) .I fun (i25 : Int) =>
          .both (
            .calln 33 #[.agg #[.int .i64 r24.1, .bool r24.2.1], .int .i64 r19.1, .int .i64 i25] (.tup [(.agg [.I, .bool]), .I]) fun (r26 : (Int × Bool × Unit) × Int × Unit) =>
            .new 44 [.int .i64 0, .bool false] fun (a27 : Addr) =>
            .st a27 [.int .i64 r26.1.1, .bool r26.1.2.1] <|
            .tick <|
            .need ((0 : Int) ≤ r19.1 ∧ r19.1 < (↑x1.n : Int)) <|
            .nil x1.a fun (a28 : Addr) =>
            .ld ((a28.add (Int.toNat r19.1 * 3)).add 0) .I fun (i29 : Int) =>
            .need ((0 : Int) ≤ r19.1 ∧ r19.1 < (↑x1.n : Int)) <|
            .nil x1.a fun (a30 : Addr) =>
            .ld ((a30.add (Int.toNat r19.1 * 3)).add 1) .I fun (i31 : Int) =>
            .ld (a27.add 1) .B fun (b32 : Bool) =>
            .calln 35 #[.int .i64 r23.1, .bool b32, .bool false] .I fun (i33 : Int) =>
            .keep [((a30.add (Int.toNat r19.1 * 3)).add 1, [.int .i64 i31]), ((a28.add (Int.toNat r19.1 * 3)).add 0, [.int .i64 i29])] <|
            .calln 34 #[.agg #[.int .u64 (IntKind.u64.wrap i29), .int .u32 (IntKind.u32.wrap i31), .int .i64 r15.1, .int .i64 i33]] (.tup [.S, .I]) fun (r34 : ByteArray × Int × Unit) =>
            .tick <|
            .ld (x0.add 0) .P fun (p35 : Option Addr) =>
            .ld ((x0.add 1).add 0) .I fun (i36 : Int) =>
            .ld (a27.add 0) .I fun (i37 : Int) =>
            .calln 12 #[.pointer p35, .int .i64 (IntKind.i64.wrap (i36 + IntKind.i64.wrap ((16 : Int) * i37))), .string r34.1] .I fun (i38 : Int) =>
            .jmp 0 [.int .i64 (IntKind.i64.wrap (r19.1 + (1 : Int)))]) <|
          .new 44 [.int .i64 0, .bool false] fun (a39 : Addr) =>
          .keep [((x0.add 1).add 1, [.int .i64 i25]), (x0.add 5, [.int .i64 r24.1, .bool r24.2.1])] <|
          .calln 33 #[.agg #[.int .i64 r24.1, .bool r24.2.1], .int .i64 r19.1, .int .i64 i25] (.tup [(.agg [.I, .bool]), .I]) fun (r40 : (Int × Bool × Unit) × Int × Unit) =>
          .st a39 [.int .i64 r40.1.1, .bool r40.1.2.1] <|
          .tick <|
          .need ((0 : Int) ≤ r19.1 ∧ r19.1 < (↑x1.n : Int)) <|
          .nil x1.a fun (a41 : Addr) =>
          .ld ((a41.add (Int.toNat r19.1 * 3)).add 0) .I fun (i42 : Int) =>
          .need ((0 : Int) ≤ r19.1 ∧ r19.1 < (↑x1.n : Int)) <|
          .nil x1.a fun (a43 : Addr) =>
          .ld ((a43.add (Int.toNat r19.1 * 3)).add 1) .I fun (i44 : Int) =>
          .ld (a39.add 1) .B fun (b45 : Bool) =>
          .calln 35 #[.int .i64 r23.1, .bool b45, .bool false] .I fun (i46 : Int) =>
          .keep [((a43.add (Int.toNat r19.1 * 3)).add 1, [.int .i64 i44]), ((a41.add (Int.toNat r19.1 * 3)).add 0, [.int .i64 i42])] <|
          .calln 34 #[.agg #[.int .u64 (IntKind.u64.wrap i42), .int .u32 (IntKind.u32.wrap i44), .int .i64 r15.1, .int .i64 i46]] (.tup [.S, .I]) fun (r47 : ByteArray × Int × Unit) =>
          .tick <|
          .ld (x0.add 0) .P fun (p48 : Option Addr) =>
          .ld ((x0.add 1).add 0) .I fun (i49 : Int) =>
          .ld (a39.add 0) .I fun (i50 : Int) =>
          .calln 12 #[.pointer p48, .int .i64 (IntKind.i64.wrap (i49 + IntKind.i64.wrap ((16 : Int) * i50))), .string r47.1] .I fun (i51 : Int) =>
          .jmp 0 [.int .i64 (IntKind.i64.wrap (r19.1 + (1 : Int)))]) <|
        .tick <|
        .ld (x0.add 5) (.agg [.I, .bool]) fun (r52 : Int × Bool × Unit) =>
        .ld ((x0.add 1).add 1) .I fun (i53 : Int) =>
        .both (
          .calln 33 #[.agg #[.int .i64 r52.1, .bool r52.2.1], .int .i64 ((↑x1.n : Int)), .int .i64 i53] (.tup [(.agg [.I, .bool]), .I]) fun (r54 : (Int × Bool × Unit) × Int × Unit) =>
          .new 44 [.int .i64 0, .bool false] fun (a55 : Addr) =>
          .st a55 [.int .i64 r54.1.1, .bool r54.1.2.1] <|
          .ld a55 (.agg [.I, .bool]) fun (r56 : Int × Bool × Unit) =>
          .st (x0.add 5) [.int .i64 r56.1, .bool r56.2.1] <|
          .ld (x0.add 11) .I fun (i57 : Int) =>
          .st (x0.add 11) [.int .i64 (IntKind.i64.wrap (i57 + (↑x1.n : Int)))] <|
          .new 3 [] fun (a58 : Addr) =>
          .ld (x0.add 12) .L fun (l59 : Sl) =>
          .sem (Go.Builtin.append_ #[46, 46] (46) #[.slice (some a58) (0) (0), .slice l59.a l59.n l59.c]) .L fun (l60 : Sl) =>
          .need ((0 : Int) ≤ r15.1 ∧ r15.1 < (↑l60.n : Int)) <|
          .nil l60.a fun (a61 : Addr) =>
          .st (a61.add (Int.toNat r15.1 * 1)) [.int .i64 ((↑x1.n : Int))] <|
          .st (x0.add 12) [.slice l60.a l60.n l60.c] <|
          .ret (.tuple #[.int .i64 r15.1, .int .i64 0])) <|
        .new 44 [.int .i64 0, .bool false] fun (a62 : Addr) =>
        .keep [((x0.add 1).add 1, [.int .i64 i53]), (x0.add 5, [.int .i64 r52.1, .bool r52.2.1])] <|
        .calln 33 #[.agg #[.int .i64 r52.1, .bool r52.2.1], .int .i64 ((↑x1.n : Int)), .int .i64 i53] (.tup [(.agg [.I, .bool]), .I]) fun (r63 : (Int × Bool × Unit) × Int × Unit) =>
        .st a62 [.int .i64 r63.1.1, .bool r63.1.2.1] <|
        .ld a62 (.agg [.I, .bool]) fun (r64 : Int × Bool × Unit) =>
        .st (x0.add 5) [.int .i64 r64.1, .bool r64.2.1] <|
        .ld (x0.add 11) .I fun (i65 : Int) =>
        .st (x0.add 11) [.int .i64 (IntKind.i64.wrap (i65 + (↑x1.n : Int)))] <|
        .new 3 [] fun (a66 : Addr) =>
        .ld (x0.add 12) .L fun (l67 : Sl) =>
        .sem (Go.Builtin.append_ #[46, 46] (46) #[.slice (some a66) (0) (0), .slice l67.a l67.n l67.c]) .L fun (l68 : Sl) =>
        .need ((0 : Int) ≤ r15.1 ∧ r15.1 < (↑l68.n : Int)) <|
        .nil l68.a fun (a69 : Addr) =>
        .st (a69.add (Int.toNat r15.1 * 1)) [.int .i64 ((↑x1.n : Int))] <|
        .st (x0.add 12) [.slice l68.a l68.n l68.c] <|
        .ret (.tuple #[.int .i64 r15.1, .int .i64 0])
theorem aqueductref15_Queue_Post.eq (x0 : Addr) (x1 : Sl) : trOf Tryz.prog CC (.seq .o (.join [6] [.sc .bool] .o (.seq (.seq .o (.seq (.loop [6, 7] [.sc .bool, .sc (.int .i64)] .o) .o)) (.seq .o (.seq .o (.seq .o (.seq (.seq (.loop [8] [.sc (.int .i64)] .o) .o) (.seq (.seq .o (.seq (.loop [9] [.sc (.int .i64)] (.seq .o (.seq (.seq (.seq .o (.join [10] [.sc (.int .i64)] .o (.join [10] [.sc (.int .i64)] .o .o))) .o) .o))) .o)) .o)))))))) Tryz.f7 [.pointer (some x0), .slice x1.a x1.n x1.c] = aqueductref15_Queue_Post.T x0 x1 := by kernel_rfl
theorem aqueductref15_Queue_Post.calls (x0 : Addr) (x1 : Sl) {R : Ending → World → Prop} {w : World} (h : (aqueductref15_Queue_Post.T x0 x1).wp Tryz.prog R Conts.none w) : Calls Tryz.prog 7 #[.pointer (some x0), .slice x1.a x1.n x1.c] w R :=
  calls_of_tr (args := [.pointer (some x0), .slice x1.a x1.n x1.c]) hCC hMO Tryz.func7 ((aqueductref15_Queue_Post.eq x0 x1).symm ▸ h)

/-- (*aqueduct/drvq.Queue).Reap -/
def drvq_Queue_Reap.T (x0 : Addr) : Tr :=
  .tick <|
  .ld (x0.add 0) .P fun (p0 : Option Addr) =>
  .ld ((x0.add 1).add 0) .I fun (i1 : Int) =>
  .ld ((x0.add 7).add 0) .I fun (i2 : Int) =>
  .calln 36 #[.pointer p0, .int .i64 (IntKind.i64.wrap (i1 + IntKind.i64.wrap ((16 : Int) * i2))), .int .i64 16] (.tup [.S, .I]) fun (r3 : ByteArray × Int × Unit) =>
  .call 37 #[.string r3.1] (.tup [(.agg [.U64, .U32, .I, .I]), .I]) fun (r4 : (Int × Int × Int × Int × Unit) × Int × Unit) =>
  .new 87 [.int .u64 0, .int .u32 0, .int .i64 0, .int .i64 0] fun (a5 : Addr) =>
  .st a5 [.int .u64 r4.1.1, .int .u32 r4.1.2.1, .int .i64 r4.1.2.2.1, .int .i64 r4.1.2.2.2.1] <|
  .tick <|
  .ld (a5.add 3) .I fun (i6 : Int) =>
  .ld ((x0.add 7).add 1) .B fun (b7 : Bool) =>
  .calln 38 #[.int .i64 i6, .bool b7] .B fun (b8 : Bool) =>
  .cond (!b8) (
    .ret (.tuple #[.int .i64 0, .int .i64 0, .bool false, .int .i64 0])) <|
  .tick <|
  .ld (x0.add 13) .M fun (p9 : Option Nat) =>
  .ld (a5.add 2) .I fun (i10 : Int) =>
  .sem (Go.Instr.lookup (76) (.map p9) (.int .i64 i10) true) (.tup [.I, .B]) fun (r11 : Int × Bool × Unit) =>
  .cond (!r11.2.1) (
    .ret (.tuple #[.int .i64 0, .int .i64 0, .bool false, .int .i64 150])) <|
  .tick <|
  .ld (x0.add 13) .M fun (p12 : Option Nat) =>
  .ld (a5.add 2) .I fun (i13 : Int) =>
  .sem (Go.Builtin.delete_ #[76, 3] (0) #[.map p12, .int .i64 i13]) (.tup []) fun (u14 : Unit) =>
  .ld (x0.add 12) .I fun (i15 : Int) =>
  .st (x0.add 12) [.int .i64 (IntKind.i64.wrap (i15 + r11.1))] <|
  .tick <|
  .ld (x0.add 7) (.agg [.I, .bool]) fun (r16 : Int × Bool × Unit) =>
  .ld ((x0.add 1).add 1) .I fun (i17 : Int) =>
  .calln 30 #[.agg #[.int .i64 r16.1, .bool r16.2.1], .int .i64 r11.1, .int .i64 i17] (.tup [(.agg [.I, .bool]), .I]) fun (r18 : (Int × Bool × Unit) × Int × Unit) =>
  .st (x0.add 7) [.int .i64 r18.1.1, .bool r18.1.2.1] <|
  .tick <|
  .ld (a5.add 2) .I fun (i19 : Int) =>
  .ld (a5.add 1) .U32 fun (i20 : Int) =>
  .ret (.tuple #[.int .i64 i19, .int .i64 (IntKind.i64.wrap i20), .bool true, .int .i64 0])
theorem drvq_Queue_Reap.eq (x0 : Addr) : trOf Tryz.prog CC (.o) Tryz.f8 [.pointer (some x0)] = drvq_Queue_Reap.T x0 := by kernel_rfl
theorem drvq_Queue_Reap.calls (x0 : Addr) {R : Ending → World → Prop} {w : World} (h : (drvq_Queue_Reap.T x0).wp Tryz.prog R Conts.none w) : Calls Tryz.prog 8 #[.pointer (some x0)] w R :=
  calls_of_tr (args := [.pointer (some x0)]) hCC hMO Tryz.func8 ((drvq_Queue_Reap.eq x0).symm ▸ h)

/-- (*aqueduct/aqueductref15.Queue).Reap -/
def aqueductref15_Queue_Reap.T (x0 : Addr) : Tr :=
  .tick <|
  .ld ((x0.add 1).add 0) .I fun (i0 : Int) =>
  .ld ((x0.add 7).add 0) .I fun (i1 : Int) =>
  .ld (x0.add 0) .P fun (p2 : Option Addr) =>
  .nil p2 fun (a3 : Addr) =>
  .ld (a3.add 0) .S fun (s4 : ByteArray) =>
  .need ((0 : Int) ≤ IntKind.i64.wrap (IntKind.i64.wrap (i0 + IntKind.i64.wrap ((16 : Int) * i1)) + (16 : Int)) ∧ IntKind.i64.wrap (IntKind.i64.wrap (i0 + IntKind.i64.wrap ((16 : Int) * i1)) + (16 : Int)) ≤ (↑s4.size : Int) ∧ (0 : Int) ≤ IntKind.i64.wrap (i0 + IntKind.i64.wrap ((16 : Int) * i1)) ∧ IntKind.i64.wrap (i0 + IntKind.i64.wrap ((16 : Int) * i1)) ≤ IntKind.i64.wrap (IntKind.i64.wrap (i0 + IntKind.i64.wrap ((16 : Int) * i1)) + (16 : Int))) <|
  .call 39 #[.string (s4.extract (IntKind.i64.wrap (i0 + IntKind.i64.wrap ((16 : Int) * i1))).toNat (IntKind.i64.wrap (IntKind.i64.wrap (i0 + IntKind.i64.wrap ((16 : Int) * i1)) + (16 : Int))).toNat)] (.tup [(.agg [.U64, .U32, .I, .I]), .I]) fun (r5 : (Int × Int × Int × Int × Unit) × Int × Unit) =>
  .new 87 [.int .u64 0, .int .u32 0, .int .i64 0, .int .i64 0] fun (a6 : Addr) =>
  .st a6 [.int .u64 r5.1.1, .int .u32 r5.1.2.1, .int .i64 r5.1.2.2.1, .int .i64 r5.1.2.2.2.1] <|
  .tick <|
  .ld (a6.add 3) .I fun (i7 : Int) =>
  .ld ((x0.add 7).add 1) .B fun (b8 : Bool) =>
  .calln 40 #[.int .i64 i7, .bool b8] .B fun (b9 : Bool) =>
  .cond (!b9) (
    .ret (.tuple #[.int .i64 0, .int .i64 0, .bool false, .int .i64 0])) <|
  .tick <|
  .ld (a6.add 2) .I fun (i10 : Int) =>
  .ld (x0.add 12) .L fun (l11 : Sl) =>
  .cond (decide ((↑l11.n : Int) ≤ i10)) (
    .ret (.tuple #[.int .i64 0, .int .i64 0, .bool false, .int .i64 150])) <|
  .ld (x0.add 12) .L fun (l12 : Sl) =>
  .ld (a6.add 2) .I fun (i13 : Int) =>
  .need ((0 : Int) ≤ i13 ∧ i13 < (↑l12.n : Int)) <|
  .nil l12.a fun (a14 : Addr) =>
  .ld (a14.add (i13.toNat * 1)) .I fun (i15 : Int) =>
  .cond (decide (i15 = (0 : Int))) (
    .ret (.tuple #[.int .i64 0, .int .i64 0, .bool false, .int .i64 150])) <|
  .tick <|
  .ld (x0.add 7) (.agg [.I, .bool]) fun (r16 : Int × Bool × Unit) =>
  .ld (x0.add 12) .L fun (l17 : Sl) =>
  .ld (a6.add 2) .I fun (i18 : Int) =>
  .need ((0 : Int) ≤ i18 ∧ i18 < (↑l17.n : Int)) <|
  .nil l17.a fun (a19 : Addr) =>
  .ld (a19.add (i18.toNat * 1)) .I fun (i20 : Int) =>
  .ld ((x0.add 1).add 1) .I fun (i21 : Int) =>
  .both (
    .calln 33 #[.agg #[.int .i64 r16.1, .bool r16.2.1], .int .i64 i20, .int .i64 i21] (.tup [(.agg [.I, .bool]), .I]) fun (r22 : (Int × Bool × Unit) × Int × Unit) =>
    .new 44 [.int .i64 0, .bool false] fun (a23 : Addr) =>
    .st a23 [.int .i64 r22.1.1, .bool r22.1.2.1] <|
    .ld a23 (.agg [.I, .bool]) fun (r24 : Int × Bool × Unit) =>
    .st (x0.add 7) [.int .i64 r24.1, .bool r24.2.1] <|
    .new 3 [] fun (a25 : Addr) =>
    .ld (x0.add 12) .L fun (l26 : Sl) =>
    .sem (Go.Builtin.append_ #[46, 46] (46) #[.slice (some a25) (0) (0), .slice l26.a l26.n l26.c]) .L fun (l27 : Sl) =>
    .ld (a6.add 2) .I fun (i28 : Int) =>
    .need ((0 : Int) ≤ i28 ∧ i28 < (↑l27.n : Int)) <|
    .nil l27.a fun (a29 : Addr) =>
    .st (a29.add (i28.toNat * 1)) [.int .i64 0] <|
    .st (x0.add 12) [.slice l27.a l27.n l27.c] <|
    .tick <|
    .ld (a6.add 2) .I fun (i30 : Int) =>
    .ld (a6.add 1) .U32 fun (i31 : Int) =>
    .ret (.tuple #[.int .i64 i30, .int .i64 (IntKind.i64.wrap i31), .bool true, .int .i64 0])) <|
  .new 44 [.int .i64 0, .bool false] fun (a32 : Addr) =>
  .keep [((x0.add 1).add 1, [.int .i64 i21]), (a19.add (i18.toNat * 1), [.int .i64 i20]), (a6.add 2, [.int .i64 i18]), (x0.add 12, [.slice l17.a l17.n l17.c]), (x0.add 7, [.int .i64 r16.1, .bool r16.2.1])] <|
  .calln 33 #[.agg #[.int .i64 r16.1, .bool r16.2.1], .int .i64 i20, .int .i64 i21] (.tup [(.agg [.I, .bool]), .I]) fun (r33 : (Int × Bool × Unit) × Int × Unit) =>
  .st a32 [.int .i64 r33.1.1, .bool r33.1.2.1] <|
  .ld a32 (.agg [.I, .bool]) fun (r34 : Int × Bool × Unit) =>
  .st (x0.add 7) [.int .i64 r34.1, .bool r34.2.1] <|
  .new 3 [] fun (a35 : Addr) =>
  .ld (x0.add 12) .L fun (l36 : Sl) =>
  .sem (Go.Builtin.append_ #[46, 46] (46) #[.slice (some a35) (0) (0), .slice l36.a l36.n l36.c]) .L fun (l37 : Sl) =>
  .ld (a6.add 2) .I fun (i38 : Int) =>
  .need ((0 : Int) ≤ i38 ∧ i38 < (↑l37.n : Int)) <|
  .nil l37.a fun (a39 : Addr) =>
  .st (a39.add (i38.toNat * 1)) [.int .i64 0] <|
  .st (x0.add 12) [.slice l37.a l37.n l37.c] <|
  .tick <|
  .ld (a6.add 2) .I fun (i40 : Int) =>
  .ld (a6.add 1) .U32 fun (i41 : Int) =>
  .ret (.tuple #[.int .i64 i40, .int .i64 (IntKind.i64.wrap i41), .bool true, .int .i64 0])
theorem aqueductref15_Queue_Reap.eq (x0 : Addr) : trOf Tryz.prog CC (.o) Tryz.f9 [.pointer (some x0)] = aqueductref15_Queue_Reap.T x0 := by kernel_rfl
theorem aqueductref15_Queue_Reap.calls (x0 : Addr) {R : Ending → World → Prop} {w : World} (h : (aqueductref15_Queue_Reap.T x0).wp Tryz.prog R Conts.none w) : Calls Tryz.prog 9 #[.pointer (some x0)] w R :=
  calls_of_tr (args := [.pointer (some x0)]) hCC hMO Tryz.func9 ((aqueductref15_Queue_Reap.eq x0).symm ▸ h)

/-- (*aqueduct/gmem.Memory).Write -/
def gmem_Memory_Write.T (x0 : Addr) (x1 : Int) (x2 : ByteArray) : Tr :=
  .call 41 #[.pointer (some x0), .int .i64 x1, .int .i64 ((↑x2.size : Int))] .B fun (b0 : Bool) =>
  .cond (!b0) (
    .ret (.int .i64 41)) <|
  .call 42 #[.pointer (some x0), .int .i64 x1, .int .i64 ((↑x2.size : Int)), .bool true] (.tup []) fun (u1 : Unit) =>
  .ld (x0.add 0) .L fun (l2 : Sl) =>
  .need ((0 : Int) ≤ x1 ∧ x1 ≤ (↑l2.n : Int)) <|
  .sem (Go.Builtin.copy_ #[65, 9] (3) #[.slice (slB l2.a x1.toNat 1 l2.c) (l2.n - x1.toNat) (l2.c - x1.toNat), .string x2]) .I fun (i3 : Int) =>
  .ret (.int .i64 0)
theorem gmem_Memory_Write.eq (x0 : Addr) (x1 : Int) (x2 : ByteArray) : trOf Tryz.prog CC (.o) Tryz.f10 [.pointer (some x0), .int .i64 x1, .string x2] = gmem_Memory_Write.T x0 x1 x2 := by kernel_rfl
theorem gmem_Memory_Write.calls (x0 : Addr) (x1 : Int) (x2 : ByteArray) {R : Ending → World → Prop} {w : World} (h : (gmem_Memory_Write.T x0 x1 x2).wp Tryz.prog R Conts.none w) : Calls Tryz.prog 10 #[.pointer (some x0), .int .i64 x1, .string x2] w R :=
  calls_of_tr (args := [.pointer (some x0), .int .i64 x1, .string x2]) hCC hMO Tryz.func10 ((gmem_Memory_Write.eq x0 x1 x2).symm ▸ h)

/-- (*aqueduct/aqueductref04.Memory).Write -/
def aqueductref04_Memory_Write.T (x0 : Addr) (x1 : Int) (x2 : ByteArray) : Tr :=
  .call 31 #[.pointer (some x0), .int .i64 x1, .int .i64 ((↑x2.size : Int))] .B fun (b0 : Bool) =>
  .cond (!b0) (
    .ret (.int .i64 41)) <|
  .call 43 #[.pointer (some x0), .int .i64 x1, .int .i64 ((↑x2.size : Int)), .bool true] (.tup []) fun (u1 : Unit) =>
  .tick <|
  .ld (x0.add 0) .S fun (s2 : ByteArray) =>
  .need ((0 : Int) ≤ x1 ∧ x1 ≤ (↑s2.size : Int)) <|
  .need ((s2.extract 0 x1.toNat).size + x2.size ≤ 9223372036854775807) <|
  .ld (x0.add 0) .S fun (s3 : ByteArray) =>
  .need ((0 : Int) ≤ IntKind.i64.wrap (x1 + (↑x2.size : Int)) ∧ IntKind.i64.wrap (x1 + (↑x2.size : Int)) ≤ (↑s3.size : Int)) <|
  .need ((s2.extract 0 x1.toNat ++ x2).size + (s3.extract (IntKind.i64.wrap (x1 + (↑x2.size : Int))).toNat s3.size).size ≤ 9223372036854775807) <|
  .st (x0.add 0) [.string (s2.extract 0 x1.toNat ++ x2 ++ s3.extract (IntKind.i64.wrap (x1 + (↑x2.size : Int))).toNat s3.size)] <|
  .ret (.int .i64 0)
theorem aqueductref04_Memory_Write.eq (x0 : Addr) (x1 : Int) (x2 : ByteArray) : trOf Tryz.prog CC (.o) Tryz.f12 [.pointer (some x0), .int .i64 x1, .string x2] = aqueductref04_Memory_Write.T x0 x1 x2 := by kernel_rfl
theorem aqueductref04_Memory_Write.calls (x0 : Addr) (x1 : Int) (x2 : ByteArray) {R : Ending → World → Prop} {w : World} (h : (aqueductref04_Memory_Write.T x0 x1 x2).wp Tryz.prog R Conts.none w) : Calls Tryz.prog 12 #[.pointer (some x0), .int .i64 x1, .string x2] w R :=
  calls_of_tr (args := [.pointer (some x0), .int .i64 x1, .string x2]) hCC hMO Tryz.func12 ((aqueductref04_Memory_Write.eq x0 x1 x2).symm ▸ h)

/-- (*aqueduct/drvq.Queue).Tell -/
def drvq_Queue_Tell.T (x0 : Addr) : Tr :=
  .tick <|
  .ld (x0.add 0) .P fun (p0 : Option Addr) =>
  .ld ((x0.add 1).add 3) .I fun (i1 : Int) =>
  .calln 36 #[.pointer p0, .int .i64 i1, .int .i64 4] (.tup [.S, .I]) fun (r2 : ByteArray × Int × Unit) =>
  .call 44 #[.string r2.1] (.tup [(.agg [.I, .bool, .I]), .I]) fun (r3 : (Int × Bool × Int × Unit) × Int × Unit) =>
  .new 34 [.int .i64 0, .bool false, .int .i64 0] fun (a4 : Addr) =>
  .st a4 [.int .i64 r3.1.1, .bool r3.1.2.1, .int .i64 r3.1.2.2.1] <|
  .tick <|
  .ld a4 (.agg [.I, .bool, .I]) fun (r5 : Int × Bool × Int × Unit) =>
  .ld (x0.add 9) (.agg [.I, .bool]) fun (r6 : Int × Bool × Unit) =>
  .ld (x0.add 5) (.agg [.I, .bool]) fun (r7 : Int × Bool × Unit) =>
  .ld ((x0.add 1).add 1) .I fun (i8 : Int) =>
  .calln 45 #[.agg #[.int .i64 r5.1, .bool r5.2.1, .int .i64 r5.2.2.1], .agg #[.int .i64 r6.1, .bool r6.2.1], .agg #[.int .i64 r7.1, .bool r7.2.1], .int .i64 i8] .B fun (b9 : Bool) =>
  .bind 0 [.B] (
    .tick <|
    .ld (x0.add 11) .I fun (i10 : Int) =>
    .ld ((x0.add 1).add 1) .I fun (i11 : Int) =>
    .cond (decide (i11 < i10)) (
      .ld (a4.add 2) .I fun (i12 : Int) =>
      .cond (!decide (i12 = (1 : Int))) (
        .ld (a4.add 2) .I fun (i13 : Int) =>
        .jmp 0 [.bool (decide (i13 ≤ (2 : Int)))]) <|
      .jmp 0 [.bool false]) <|
    .jmp 0 [.bool b9]) fun (r14 : Bool × Unit) =>
  .ld (x0.add 5) (.agg [.I, .bool]) fun (r15 : Int × Bool × Unit) =>
  .st (x0.add 9) [.int .i64 r15.1, .bool r15.2.1] <|
  .st (x0.add 11) [.int .i64 0] <|
  .ret (.bool r14.1)
theorem drvq_Queue_Tell.eq (x0 : Addr) : trOf Tryz.prog CC (.seq .o (.seq .o (.seq .o (.seq .o (.join [7] [.sc .bool] .o .o))))) Tryz.f13 [.pointer (some x0)] = drvq_Queue_Tell.T x0 := by kernel_rfl
theorem drvq_Queue_Tell.calls (x0 : Addr) {R : Ending → World → Prop} {w : World} (h : (drvq_Queue_Tell.T x0).wp Tryz.prog R Conts.none w) : Calls Tryz.prog 13 #[.pointer (some x0)] w R :=
  calls_of_tr (args := [.pointer (some x0)]) hCC hMO Tryz.func13 ((drvq_Queue_Tell.eq x0).symm ▸ h)

/-- (*aqueduct/aqueductref15.Queue).Tell -/
def aqueductref15_Queue_Tell.T (x0 : Addr) : Tr :=
  .tick <|
  .ld (x0.add 0) .P fun (p0 : Option Addr) =>
  .nil p0 fun (a1 : Addr) =>
  .ld (a1.add 0) .S fun (s2 : ByteArray) =>
  .ld ((x0.add 1).add 3) .I fun (i3 : Int) =>
  .ld ((x0.add 1).add 3) .I fun (i4 : Int) =>
  .need ((0 : Int) ≤ IntKind.i64.wrap (i4 + (4 : Int)) ∧ IntKind.i64.wrap (i4 + (4 : Int)) ≤ (↑s2.size : Int) ∧ (0 : Int) ≤ i3 ∧ i3 ≤ IntKind.i64.wrap (i4 + (4 : Int))) <|
  .both (
    .calln 46 #[.string (s2.extract i3.toNat (IntKind.i64.wrap (i4 + (4 : Int))).toNat)] (.tup [(.agg [.I, .bool, .I]), .I]) fun (r5 : (Int × Bool × Int × Unit) × Int × Unit) =>
    .keep [(x0.add 0, [.pointer p0])] <|
    .new 34 [.int .i64 0, .bool false, .int .i64 0] fun (a6 : Addr) =>
    .keep [(x0.add 0, [.pointer p0])] <|
    .st a6 [.int .i64 r5.1.1, .bool r5.1.2.1, .int .i64 r5.1.2.2.1] <|
    .bind 0 [.B] (
      .ld (a6.add 2) .I fun (i7 : Int) =>
      .cond (decide (i7 = (0 : Int))) (
        .jmp 0 [.bool true]) <|
      .ld (a6.add 2) .I fun (i8 : Int) =>
      .jmp 0 [.bool (decide (i8 = (2 : Int)))]) fun (r9 : Bool × Unit) =>
    .bind 0 [.B] (
      .tick <|
      .ld (x0.add 11) .I fun (i10 : Int) =>
      .ld ((x0.add 1).add 1) .I fun (i11 : Int) =>
      .cond (decide (i10 ≤ i11)) (
        .tick <|
        .ld a6 (.agg [.I, .bool, .I]) fun (r12 : Int × Bool × Int × Unit) =>
        .ld (x0.add 9) (.agg [.I, .bool]) fun (r13 : Int × Bool × Unit) =>
        .ld (x0.add 5) (.agg [.I, .bool]) fun (r14 : Int × Bool × Unit) =>
        .ld ((x0.add 1).add 1) .I fun (i15 : Int) =>
        .calln 47 #[.agg #[.int .i64 r12.1, .bool r12.2.1, .int .i64 r12.2.2.1], .agg #[.int .i64 r13.1, .bool r13.2.1], .agg #[.int .i64 r14.1, .bool r14.2.1], .int .i64 i15] .B fun (b16 : Bool) =>
        .jmp 0 [.bool b16]) <|
      .jmp 0 [.bool r9.1]) fun (r17 : Bool × Unit) =>
    .ld (x0.add 5) (.agg [.I, .bool]) fun (r18 : Int × Bool × Unit) =>
    .st (x0.add 9) [.int .i64 r18.1, .bool r18.2.1] <|
    .st (x0.add 11) [.int .i64 0] <|
    .ret (.bool r17.1)) <|
  .new 34 [.int .i64 0, .bool false, .int .i64 0] fun (a19 : Addr) =>
  .keep [((x0.add 1).add 3, [.int .i64 i4]), ((x0.add 1).add 3, [.int .i64 i3]), (a1.add 0, [.string s2]), (x0.add 0, [.pointer p0])] <|
  .calln 46 #[.string (s2.extract i3.toNat (IntKind.i64.wrap (i4 + (4 : Int))).toNat)] (.tup [(.agg [.I, .bool, .I]), .I]) fun (r20 : (Int × Bool × Int × Unit) × Int × Unit) =>
  .keep [(x0.add 0, [.pointer p0])] <|
  .st a19 [.int .i64 r20.1.1, .bool r20.1.2.1, .int .i64 r20.1.2.2.1] <|
  .bind 0 [.B] (
    .ld (a19.add 2) .I fun (i21 : Int) =>
    .cond (decide (i21 = (0 : Int))) (
      .jmp 0 [.bool true]) <|
    .ld (a19.add 2) .I fun (i22 : Int) =>
    .jmp 0 [.bool (decide (i22 = (2 : Int)))]) fun (r23 : Bool × Unit) =>
  .bind 0 [.B] (
    .tick <|
    .ld (x0.add 11) .I fun (i24 : Int) =>
    .ld ((x0.add 1).add 1) .I fun (i25 : Int) =>
    .cond (decide (i24 ≤ i25)) (
      .tick <|
      .ld a19 (.agg [.I, .bool, .I]) fun (r26 : Int × Bool × Int × Unit) =>
      .ld (x0.add 9) (.agg [.I, .bool]) fun (r27 : Int × Bool × Unit) =>
      .ld (x0.add 5) (.agg [.I, .bool]) fun (r28 : Int × Bool × Unit) =>
      .ld ((x0.add 1).add 1) .I fun (i29 : Int) =>
      .calln 47 #[.agg #[.int .i64 r26.1, .bool r26.2.1, .int .i64 r26.2.2.1], .agg #[.int .i64 r27.1, .bool r27.2.1], .agg #[.int .i64 r28.1, .bool r28.2.1], .int .i64 i29] .B fun (b30 : Bool) =>
      .jmp 0 [.bool b30]) <|
    .jmp 0 [.bool r23.1]) fun (r31 : Bool × Unit) =>
  .ld (x0.add 5) (.agg [.I, .bool]) fun (r32 : Int × Bool × Unit) =>
  .st (x0.add 9) [.int .i64 r32.1, .bool r32.2.1] <|
  .st (x0.add 11) [.int .i64 0] <|
  .ret (.bool r31.1)
theorem aqueductref15_Queue_Tell.eq (x0 : Addr) : trOf Tryz.prog CC (.seq .o (.seq .o (.join [5] [.sc .bool] .o (.join [5] [.sc .bool] .o .o)))) Tryz.f14 [.pointer (some x0)] = aqueductref15_Queue_Tell.T x0 := by kernel_rfl
theorem aqueductref15_Queue_Tell.calls (x0 : Addr) {R : Ending → World → Prop} {w : World} (h : (aqueductref15_Queue_Tell.T x0).wp Tryz.prog R Conts.none w) : Calls Tryz.prog 14 #[.pointer (some x0)] w R :=
  calls_of_tr (args := [.pointer (some x0)]) hCC hMO Tryz.func14 ((aqueductref15_Queue_Tell.eq x0).symm ▸ h)

/-- (*aqueduct/drvq.Queue).Ask -/
def drvq_Queue_Ask.T (x0 : Addr) (x1 : Int × Bool × Int × PUnit) : Tr :=
  .new 34 [.int .i64 x1.1, .bool x1.2.1, .int .i64 x1.2.2.1] fun (a0 : Addr) =>
  .ld a0 (.agg [.I, .bool, .I]) fun (r1 : Int × Bool × Int × Unit) =>
  .call 48 #[.agg #[.int .i64 r1.1, .bool r1.2.1, .int .i64 r1.2.2.1]] (.tup [.S, .I]) fun (r2 : ByteArray × Int × Unit) =>
  .cond (!decide (r2.2.1 = (0 : Int))) (
    .ret (.int .i64 r2.2.1)) <|
  .tick <|
  .ld (x0.add 0) .P fun (p3 : Option Addr) =>
  .ld ((x0.add 1).add 2) .I fun (i4 : Int) =>
  .calln 10 #[.pointer p3, .int .i64 i4, .string r2.1] .I fun (i5 : Int) =>
  .ret (.int .i64 i5)
theorem drvq_Queue_Ask.eq (x0 : Addr) (x1 : Int × Bool × Int × PUnit) : trOf Tryz.prog CC (.o) Tryz.f15 [.pointer (some x0), .agg #[.int .i64 x1.fst, .bool x1.snd.fst, .int .i64 x1.snd.snd.fst]] = drvq_Queue_Ask.T x0 x1 := by kernel_rfl
theorem drvq_Queue_Ask.calls (x0 : Addr) (x1 : Int × Bool × Int × PUnit) {R : Ending → World → Prop} {w : World} (h : (drvq_Queue_Ask.T x0 x1).wp Tryz.prog R Conts.none w) : Calls Tryz.prog 15 #[.pointer (some x0), .agg #[.int .i64 x1.fst, .bool x1.snd.fst, .int .i64 x1.snd.snd.fst]] w R :=
  calls_of_tr (args := [.pointer (some x0), .agg #[.int .i64 x1.fst, .bool x1.snd.fst, .int .i64 x1.snd.snd.fst]]) hCC hMO Tryz.func15 ((drvq_Queue_Ask.eq x0 x1).symm ▸ h)

/-- (*aqueduct/aqueductref15.Queue).Ask -/
def aqueductref15_Queue_Ask.T (x0 : Addr) (x1 : Int × Bool × Int × PUnit) : Tr :=
  .new 34 [.int .i64 x1.1, .bool x1.2.1, .int .i64 x1.2.2.1] fun (a0 : Addr) =>
  .ld a0 (.agg [.I, .bool, .I]) fun (r1 : Int × Bool × Int × Unit) =>
  .call 49 #[.agg #[.int .i64 r1.1, .bool r1.2.1, .int .i64 r1.2.2.1]] (.tup [.S, .I]) fun (r2 : ByteArray × Int × Unit) =>
  .cond (!decide (r2.2.1 = (0 : Int))) (
    .ret (.int .i64 r2.2.1)) <|
  .tick <|
  .ld (x0.add 0) .P fun (p3 : Option Addr) =>
  .ld ((x0.add 1).add 2) .I fun (i4 : Int) =>
  .calln 12 #[.pointer p3, .int .i64 i4, .string r2.1] .I fun (i5 : Int) =>
  .ret (.int .i64 i5)
theorem aqueductref15_Queue_Ask.eq (x0 : Addr) (x1 : Int × Bool × Int × PUnit) : trOf Tryz.prog CC (.o) Tryz.f16 [.pointer (some x0), .agg #[.int .i64 x1.fst, .bool x1.snd.fst, .int .i64 x1.snd.snd.fst]] = aqueductref15_Queue_Ask.T x0 x1 := by kernel_rfl
theorem aqueductref15_Queue_Ask.calls (x0 : Addr) (x1 : Int × Bool × Int × PUnit) {R : Ending → World → Prop} {w : World} (h : (aqueductref15_Queue_Ask.T x0 x1).wp Tryz.prog R Conts.none w) : Calls Tryz.prog 16 #[.pointer (some x0), .agg #[.int .i64 x1.fst, .bool x1.snd.fst, .int .i64 x1.snd.snd.fst]] w R :=
  calls_of_tr (args := [.pointer (some x0), .agg #[.int .i64 x1.fst, .bool x1.snd.fst, .int .i64 x1.snd.snd.fst]]) hCC hMO Tryz.func16 ((aqueductref15_Queue_Ask.eq x0 x1).symm ▸ h)

/-- (*aqueduct/gmem.Memory).Clone -/
def gmem_Memory_Clone.T (x0 : Addr) : Tr :=
  .tick <|
  .ld (x0.add 0) .L fun (l0 : Sl) =>
  .ld (x0.add 1) .I fun (i1 : Int) =>
  .ld (x0.add 2) .L fun (l2 : Sl) =>
  .calln 50 #[.slice l0.a l0.n l0.c] .L fun (l3 : Sl) =>
  .keep [(x0.add 2, [.slice l2.a l2.n l2.c]), (x0.add 1, [.int .i64 i1])] <|
  .calln 51 #[.slice l2.a l2.n l2.c] .L fun (l4 : Sl) =>
  .keep [(x0.add 1, [.int .i64 i1])] <|
  .new 95 [.slice l3.a l3.n l3.c, .int .i64 i1, .slice l4.a l4.n l4.c] fun (a5 : Addr) =>
  .ret (.pointer (some a5))
theorem gmem_Memory_Clone.eq (x0 : Addr) : trOf Tryz.prog CC (.o) Tryz.f17 [.pointer (some x0)] = gmem_Memory_Clone.T x0 := by kernel_rfl
theorem gmem_Memory_Clone.calls (x0 : Addr) {R : Ending → World → Prop} {w : World} (h : (gmem_Memory_Clone.T x0).wp Tryz.prog R Conts.none w) : Calls Tryz.prog 17 #[.pointer (some x0)] w R :=
  calls_of_tr (args := [.pointer (some x0)]) hCC hMO Tryz.func17 ((gmem_Memory_Clone.eq x0).symm ▸ h)

/-- (*aqueduct/drvq.Queue).Clone -/
def drvq_Queue_Clone.T (x0 : Addr) (x1 : Addr) : Tr :=
  .ld x0 (.agg [.ptr, .I, .I, .I, .I, .I, .bool, .I, .bool, .I, .bool, .I, .I, .map]) fun (r0 : Option Addr × Int × Int × Int × Int × Int × Bool × Int × Bool × Int × Bool × Int × Int × Option Nat × Unit) =>
  .new 78 [.pointer none, .int .i64 0, .int .i64 0, .int .i64 0, .int .i64 0, .int .i64 0, .bool false, .int .i64 0, .bool false, .int .i64 0, .bool false, .int .i64 0, .int .i64 0, .map none] fun (a1 : Addr) =>
  .st a1 [.pointer r0.1, .int .i64 r0.2.1, .int .i64 r0.2.2.1, .int .i64 r0.2.2.2.1, .int .i64 r0.2.2.2.2.1, .int .i64 r0.2.2.2.2.2.1, .bool r0.2.2.2.2.2.2.1, .int .i64 r0.2.2.2.2.2.2.2.1, .bool r0.2.2.2.2.2.2.2.2.1, .int .i64 r0.2.2.2.2.2.2.2.2.2.1, .bool r0.2.2.2.2.2.2.2.2.2.2.1, .int .i64 r0.2.2.2.2.2.2.2.2.2.2.2.1, .int .i64 r0.2.2.2.2.2.2.2.2.2.2.2.2.1, .map r0.2.2.2.2.2.2.2.2.2.2.2.2.2.1] <|
  .ld (x0.add 13) .M fun (p2 : Option Nat) =>
  .call 52 #[.map p2] .M fun (p3 : Option Nat) =>
  .st (a1.add 0) [.pointer (some x1)] <|
  .st (a1.add 13) [.map p3] <|
  .ret (.pointer (some a1))
theorem drvq_Queue_Clone.eq (x0 : Addr) (x1 : Addr) : trOf Tryz.prog CC (.o) Tryz.f18 [.pointer (some x0), .pointer (some x1)] = drvq_Queue_Clone.T x0 x1 := by kernel_rfl
theorem drvq_Queue_Clone.calls (x0 : Addr) (x1 : Addr) {R : Ending → World → Prop} {w : World} (h : (drvq_Queue_Clone.T x0 x1).wp Tryz.prog R Conts.none w) : Calls Tryz.prog 18 #[.pointer (some x0), .pointer (some x1)] w R :=
  calls_of_tr (args := [.pointer (some x0), .pointer (some x1)]) hCC hMO Tryz.func18 ((drvq_Queue_Clone.eq x0 x1).symm ▸ h)

/-- (*aqueduct/gmem.Memory).Store -/
def gmem_Memory_Store.T (x0 : Addr) (x1 : Int) (x2 : Int) (x3 : Int) : Tr :=
  .call 53 #[.int .i64 x2] .B fun (b0 : Bool) =>
  .cond (!b0) (
    .ret (.int .i64 1)) <|
  .call 54 #[.int .u64 x3, .int .i64 x2, .bool false] (.tup [.S, .I]) fun (r1 : ByteArray × Int × Unit) =>
  .cond (!decide (r1.2.1 = (0 : Int))) (
    .ret (.int .i64 r1.2.1)) <|
  .call 10 #[.pointer (some x0), .int .i64 x1, .string r1.1] .I fun (i2 : Int) =>
  .ret (.int .i64 i2)
theorem gmem_Memory_Store.eq (x0 : Addr) (x1 : Int) (x2 : Int) (x3 : Int) : trOf Tryz.prog CC (.o) Tryz.f19 [.pointer (some x0), .int .i64 x1, .int .i64 x2, .int .u64 x3] = gmem_Memory_Store.T x0 x1 x2 x3 := by kernel_rfl
theorem gmem_Memory_Store.calls (x0 : Addr) (x1 : Int) (x2 : Int) (x3 : Int) {R : Ending → World → Prop} {w : World} (h : (gmem_Memory_Store.T x0 x1 x2 x3).wp Tryz.prog R Conts.none w) : Calls Tryz.prog 19 #[.pointer (some x0), .int .i64 x1, .int .i64 x2, .int .u64 x3] w R :=
  calls_of_tr (args := [.pointer (some x0), .int .i64 x1, .int .i64 x2, .int .u64 x3]) hCC hMO Tryz.func19 ((gmem_Memory_Store.eq x0 x1 x2 x3).symm ▸ h)

/-- aqueduct/gmem.New -/
def gmem_New.T (x0 : Int) : Tr :=
  .cond (decide (x0 < (64 : Int))) (
    .ret (.tuple #[.pointer none, .int .i64 40])) <|
  .cond (decide ((1048576 : Int) < x0)) (
    .ret (.tuple #[.pointer none, .int .i64 40])) <|
  .sem (Go.Instr.makeSlice (65) (.int .i64 x0) (.int .i64 x0)) .L fun (l0 : Sl) =>
  .new 95 [.slice l0.a l0.n l0.c, .int .i64 0, .slice none (0) (0)] fun (a1 : Addr) =>
  .ret (.tuple #[.pointer (some a1), .int .i64 0])
theorem gmem_New.eq (x0 : Int) : trOf Tryz.prog CC (.o) Tryz.f22 [.int .i64 x0] = gmem_New.T x0 := by kernel_rfl
theorem gmem_New.calls (x0 : Int) {R : Ending → World → Prop} {w : World} (h : (gmem_New.T x0).wp Tryz.prog R Conts.none w) : Calls Tryz.prog 22 #[.int .i64 x0] w R :=
  calls_of_tr (args := [.int .i64 x0]) hCC hMO Tryz.func22 ((gmem_New.eq x0).symm ▸ h)

/-- aqueduct/aqueductref04.New -/
def aqueductref04_New.T (x0 : Int) : Tr :=
  .cond (decide (x0 < (64 : Int))) (
    .ret (.tuple #[.pointer none, .int .i64 40])) <|
  .cond (decide ((1048576 : Int) < x0)) (
    .ret (.tuple #[.pointer none, .int .i64 40])) <|
  .sem (Go.Instr.makeSlice (65) (.int .i64 x0) (.int .i64 x0)) .L fun (l0 : Sl) =>
  .sem (Go.convert (65) (9) (.slice l0.a l0.n l0.c)) .S fun (s1 : ByteArray) =>
  .new 73 [.string s1, .int .i64 0, .slice none (0) (0)] fun (a2 : Addr) =>
  .ret (.tuple #[.pointer (some a2), .int .i64 0])
theorem aqueductref04_New.eq (x0 : Int) : trOf Tryz.prog CC (.o) Tryz.f23 [.int .i64 x0] = aqueductref04_New.T x0 := by kernel_rfl
theorem aqueductref04_New.calls (x0 : Int) {R : Ending → World → Prop} {w : World} (h : (aqueductref04_New.T x0).wp Tryz.prog R Conts.none w) : Calls Tryz.prog 23 #[.int .i64 x0] w R :=
  calls_of_tr (args := [.int .i64 x0]) hCC hMO Tryz.func23 ((aqueductref04_New.eq x0).symm ▸ h)

/-- aqueduct/drvq.New -/
def drvq_New.T (x0 : Addr) (x1 : Int × Int × Int × Int × PUnit) : Tr :=
  .new 23 [.int .i64 x1.1, .int .i64 x1.2.1, .int .i64 x1.2.2.1, .int .i64 x1.2.2.2.1] fun (a0 : Addr) =>
  .ld a0 (.agg [.I, .I, .I, .I]) fun (r1 : Int × Int × Int × Int × Unit) =>
  .call 60 #[.pointer (some x0), .agg #[.int .i64 r1.1, .int .i64 r1.2.1, .int .i64 r1.2.2.1, .int .i64 r1.2.2.2.1]] .I fun (i2 : Int) =>
  .cond (!decide (i2 = (0 : Int))) (
    .ret (.tuple #[.pointer none, .int .i64 i2])) <|
  .tick <|
  .ld (a0.add 0) .I fun (i3 : Int) =>
  .ld (a0.add 1) .I fun (i4 : Int) =>
  .calln 61 #[.string (ByteArray.mk #[(0 : UInt8)]), .int .i64 (IntKind.i64.wrap ((16 : Int) * i4))] .S fun (s5 : ByteArray) =>
  .keep [(a0.add 0, [.int .i64 i3])] <|
  .calln 10 #[.pointer (some x0), .int .i64 i3, .string s5] .I fun (i6 : Int) =>
  .tick <|
  .ld (a0.add 2) .I fun (i7 : Int) =>
  .calln 61 #[.string (ByteArray.mk #[(0 : UInt8)]), .int .i64 4] .S fun (s8 : ByteArray) =>
  .keep [(a0.add 2, [.int .i64 i7])] <|
  .calln 10 #[.pointer (some x0), .int .i64 i7, .string s8] .I fun (i9 : Int) =>
  .tick <|
  .ld (a0.add 3) .I fun (i10 : Int) =>
  .calln 61 #[.string (ByteArray.mk #[(0 : UInt8)]), .int .i64 4] .S fun (s11 : ByteArray) =>
  .keep [(a0.add 3, [.int .i64 i10])] <|
  .calln 10 #[.pointer (some x0), .int .i64 i10, .string s11] .I fun (i12 : Int) =>
  .new 44 [.int .i64 0, .bool false] fun (a13 : Addr) =>
  .st a13 [.int .i64 0, .bool true] <|
  .ld a0 (.agg [.I, .I, .I, .I]) fun (r14 : Int × Int × Int × Int × Unit) =>
  .ld a13 (.agg [.I, .bool]) fun (r15 : Int × Bool × Unit) =>
  .ld a13 (.agg [.I, .bool]) fun (r16 : Int × Bool × Unit) =>
  .ld a13 (.agg [.I, .bool]) fun (r17 : Int × Bool × Unit) =>
  .ld (a0.add 1) .I fun (i18 : Int) =>
  .sem (Go.Instr.makeMap (76) none) .M fun (p19 : Option Nat) =>
  .new 78 [.pointer (some x0), .int .i64 r14.1, .int .i64 r14.2.1, .int .i64 r14.2.2.1, .int .i64 r14.2.2.2.1, .int .i64 r15.1, .bool r15.2.1, .int .i64 r16.1, .bool r16.2.1, .int .i64 r17.1, .bool r17.2.1, .int .i64 0, .int .i64 i18, .map p19] fun (a20 : Addr) =>
  .ret (.tuple #[.pointer (some a20), .int .i64 0])
theorem drvq_New.eq (x0 : Addr) (x1 : Int × Int × Int × Int × PUnit) : trOf Tryz.prog CC (.o) Tryz.f24 [.pointer (some x0), .agg #[.int .i64 x1.fst, .int .i64 x1.snd.fst, .int .i64 x1.snd.snd.fst, .int .i64 x1.snd.snd.snd.fst]] = drvq_New.T x0 x1 := by kernel_rfl
theorem drvq_New.calls (x0 : Addr) (x1 : Int × Int × Int × Int × PUnit) {R : Ending → World → Prop} {w : World} (h : (drvq_New.T x0 x1).wp Tryz.prog R Conts.none w) : Calls Tryz.prog 24 #[.pointer (some x0), .agg #[.int .i64 x1.fst, .int .i64 x1.snd.fst, .int .i64 x1.snd.snd.fst, .int .i64 x1.snd.snd.snd.fst]] w R :=
  calls_of_tr (args := [.pointer (some x0), .agg #[.int .i64 x1.fst, .int .i64 x1.snd.fst, .int .i64 x1.snd.snd.fst, .int .i64 x1.snd.snd.snd.fst]]) hCC hMO Tryz.func24 ((drvq_New.eq x0 x1).symm ▸ h)

/-- aqueduct/aqueductref15.New -/
def aqueductref15_New.T (x0 : Addr) (x1 : Int × Int × Int × Int × PUnit) : Tr :=
  .new 23 [.int .i64 x1.1, .int .i64 x1.2.1, .int .i64 x1.2.2.1, .int .i64 x1.2.2.2.1] fun (a0 : Addr) =>
  .ld a0 (.agg [.I, .I, .I, .I]) fun (r1 : Int × Int × Int × Int × Unit) =>
  .call 62 #[.pointer (some x0), .agg #[.int .i64 r1.1, .int .i64 r1.2.1, .int .i64 r1.2.2.1, .int .i64 r1.2.2.2.1]] .I fun (i2 : Int) =>
  .cond (!decide (i2 = (0 : Int))) (
    .ret (.tuple #[.pointer none, .int .i64 i2])) <|
  .tick <|
  .ld (a0.add 0) .I fun (i3 : Int) =>
  .ld (a0.add 1) .I fun (i4 : Int) =>
  .sem (Go.Instr.makeSlice (65) (.int .i64 (IntKind.i64.wrap ((16 : Int) * i4))) (.int .i64 (IntKind.i64.wrap ((16 : Int) * i4)))) .L fun (l5 : Sl) =>
  .keep [(a0.add 0, [.int .i64 i3])] <|
  .sem (Go.convert (65) (9) (.slice l5.a l5.n l5.c)) .S fun (s6 : ByteArray) =>
  .keep [(a0.add 0, [.int .i64 i3])] <|
  .calln 12 #[.pointer (some x0), .int .i64 i3, .string s6] .I fun (i7 : Int) =>
  .tick <|
  .ld (a0.add 2) .I fun (i8 : Int) =>
  .sem (Go.Instr.makeSlice (65) (.int .i64 4) (.int .i64 4)) .L fun (l9 : Sl) =>
  .keep [(a0.add 2, [.int .i64 i8])] <|
  .sem (Go.convert (65) (9) (.slice l9.a l9.n l9.c)) .S fun (s10 : ByteArray) =>
  .keep [(a0.add 2, [.int .i64 i8])] <|
  .calln 12 #[.pointer (some x0), .int .i64 i8, .string s10] .I fun (i11 : Int) =>
  .tick <|
  .ld (a0.add 3) .I fun (i12 : Int) =>
  .sem (Go.Instr.makeSlice (65) (.int .i64 4) (.int .i64 4)) .L fun (l13 : Sl) =>
  .keep [(a0.add 3, [.int .i64 i12])] <|
  .sem (Go.convert (65) (9) (.slice l13.a l13.n l13.c)) .S fun (s14 : ByteArray) =>
  .keep [(a0.add 3, [.int .i64 i12])] <|
  .calln 12 #[.pointer (some x0), .int .i64 i12, .string s14] .I fun (i15 : Int) =>
  .new 44 [.int .i64 0, .bool false] fun (a16 : Addr) =>
  .st a16 [.int .i64 0, .bool true] <|
  .tick <|
  .ld a0 (.agg [.I, .I, .I, .I]) fun (r17 : Int × Int × Int × Int × Unit) =>
  .ld a16 (.agg [.I, .bool]) fun (r18 : Int × Bool × Unit) =>
  .ld a16 (.agg [.I, .bool]) fun (r19 : Int × Bool × Unit) =>
  .ld a16 (.agg [.I, .bool]) fun (r20 : Int × Bool × Unit) =>
  .ld (a0.add 1) .I fun (i21 : Int) =>
  .sem (Go.Instr.makeSlice (46) (.int .i64 i21) (.int .i64 i21)) .L fun (l22 : Sl) =>
  .keep [(a16, [.int .i64 r20.1, .bool r20.2.1]), (a16, [.int .i64 r19.1, .bool r19.2.1]), (a16, [.int .i64 r18.1, .bool r18.2.1]), (a0, [.int .i64 r17.1, .int .i64 r17.2.1, .int .i64 r17.2.2.1, .int .i64 r17.2.2.2.1])] <|
  .new 48 [.pointer (some x0), .int .i64 r17.1, .int .i64 r17.2.1, .int .i64 r17.2.2.1, .int .i64 r17.2.2.2.1, .int .i64 r18.1, .bool r18.2.1, .int .i64 r19.1, .bool r19.2.1, .int .i64 r20.1, .bool r20.2.1, .int .i64 0, .slice l22.a l22.n l22.c] fun (a23 : Addr) =>
  .ret (.tuple #[.pointer (some a23), .int .i64 0])
theorem aqueductref15_New.eq (x0 : Addr) (x1 : Int × Int × Int × Int × PUnit) : trOf Tryz.prog CC (.o) Tryz.f25 [.pointer (some x0), .agg #[.int .i64 x1.fst, .int .i64 x1.snd.fst, .int .i64 x1.snd.snd.fst, .int .i64 x1.snd.snd.snd.fst]] = aqueductref15_New.T x0 x1 := by kernel_rfl
theorem aqueductref15_New.calls (x0 : Addr) (x1 : Int × Int × Int × Int × PUnit) {R : Ending → World → Prop} {w : World} (h : (aqueductref15_New.T x0 x1).wp Tryz.prog R Conts.none w) : Calls Tryz.prog 25 #[.pointer (some x0), .agg #[.int .i64 x1.fst, .int .i64 x1.snd.fst, .int .i64 x1.snd.snd.fst, .int .i64 x1.snd.snd.snd.fst]] w R :=
  calls_of_tr (args := [.pointer (some x0), .agg #[.int .i64 x1.fst, .int .i64 x1.snd.fst, .int .i64 x1.snd.snd.fst, .int .i64 x1.snd.snd.snd.fst]]) hCC hMO Tryz.func25 ((aqueductref15_New.eq x0 x1).symm ▸ h)

/-- (*aqueduct/gmem.Memory).Image -/
def gmem_Memory_Image.T (x0 : Addr) : Tr :=
  .ld (x0.add 0) .L fun (l0 : Sl) =>
  .sem (Go.convert (65) (9) (.slice l0.a l0.n l0.c)) .S fun (s1 : ByteArray) =>
  .ret (.string s1)
theorem gmem_Memory_Image.eq (x0 : Addr) : trOf Tryz.prog CC (.o) Tryz.f26 [.pointer (some x0)] = gmem_Memory_Image.T x0 := by kernel_rfl
theorem gmem_Memory_Image.calls (x0 : Addr) {R : Ending → World → Prop} {w : World} (h : (gmem_Memory_Image.T x0).wp Tryz.prog R Conts.none w) : Calls Tryz.prog 26 #[.pointer (some x0)] w R :=
  calls_of_tr (args := [.pointer (some x0)]) hCC hMO Tryz.func26 ((gmem_Memory_Image.eq x0).symm ▸ h)

/-- (*aqueduct/drvq.Queue).may -/
def drvq_Queue_may.T (x0 : Addr) (x1 : Sl) : Tr :=
  .cond (decide ((↑x1.n : Int) = (0 : Int))) (
    .ret (.int .i64 150)) <|
  .cond (decide ((64 : Int) < (↑x1.n : Int))) (
    .ret (.int .i64 150)) <|
  .loop 0 [.I] (((0 : Int), ())) fun (r0 : Int × Unit) =>
    .cond (decide (r0.1 < (↑x1.n : Int))) (
      .need ((0 : Int) ≤ r0.1 ∧ r0.1 < (↑x1.n : Int)) <|
      .nil x1.a fun (a1 : Addr) =>
      .ld (a1.add (Int.toNat r0.1 * 3)) (.agg [.I, .I, .bool]) fun (r2 : Int × Int × Bool × Unit) =>
      .new 56 [.int .i64 0, .int .i64 0, .bool false] fun (a3 : Addr) =>
      .st a3 [.int .i64 r2.1, .int .i64 r2.2.1, .bool r2.2.2.1] <|
      .tick <|
      .ld (a3.add 1) .I fun (i4 : Int) =>
      .cond (decide (i4 < (1 : Int))) (
        .ret (.int .i64 150)) <|
      .ld (x0.add 0) .P fun (p5 : Option Addr) =>
      .ld (a3.add 0) .I fun (i6 : Int) =>
      .ld (a3.add 1) .I fun (i7 : Int) =>
      .calln 41 #[.pointer p5, .int .i64 i6, .int .i64 i7] .B fun (b8 : Bool) =>
      .cond (!b8) (
        .ret (.int .i64 150)) <|
      .cond (decide ((0 : Int) < r0.1)) (
        .need ((0 : Int) ≤ IntKind.i64.wrap (r0.1 - (1 : Int)) ∧ IntKind.i64.wrap (r0.1 - (1 : Int)) < (↑x1.n : Int)) <|
        .nil x1.a fun (a9 : Addr) =>
        .ld ((a9.add ((IntKind.i64.wrap (r0.1 - (1 : Int))).toNat * 3)).add 2) .B fun (b10 : Bool) =>
        .cond b10 (
          .ld (a3.add 2) .B fun (b11 : Bool) =>
          .cond (!b11) (
            .ret (.int .i64 150)) <|
          .jmp 0 [.int .i64 (IntKind.i64.wrap (r0.1 + (1 : Int)))]) <|
        .jmp 0 [.int .i64 (IntKind.i64.wrap (r0.1 + (1 : Int)))]) <|
      .jmp 0 [.int .i64 (IntKind.i64.wrap (r0.1 + (1 : Int)))]) <|
    .ld (x0.add 12) .I fun (i12 : Int) =>
    .cond (decide (i12 < (↑x1.n : Int))) (
      .ret (.int .i64 151)) <|
    .ret (.int .i64 0)
theorem drvq_Queue_may.eq (x0 : Addr) (x1 : Sl) : trOf Tryz.prog CC (.seq .o (.seq .o (.seq (.seq .o (.seq (.loop [17] [.sc (.int .i64)] .o) .o)) .o))) Tryz.f27 [.pointer (some x0), .slice x1.a x1.n x1.c] = drvq_Queue_may.T x0 x1 := by kernel_rfl
theorem drvq_Queue_may.calls (x0 : Addr) (x1 : Sl) {R : Ending → World → Prop} {w : World} (h : (drvq_Queue_may.T x0 x1).wp Tryz.prog R Conts.none w) : Calls Tryz.prog 27 #[.pointer (some x0), .slice x1.a x1.n x1.c] w R :=
  calls_of_tr (args := [.pointer (some x0), .slice x1.a x1.n x1.c]) hCC hMO Tryz.func27 ((drvq_Queue_may.eq x0 x1).symm ▸ h)

/-- (*aqueduct/drvq.Queue).id -/
def drvq_Queue_id.T (x0 : Addr) : Tr :=
  .loop 0 [.I] (((0 : Int), ())) fun (r0 : Int × Unit) =>
    .ld (x0.add 13) .M fun (p1 : Option Nat) =>
    .sem (Go.Instr.lookup (76) (.map p1) (.int .i64 r0.1) true) (.tup [.I, .B]) fun (r2 : Int × Bool × Unit) =>
    .cond (!r2.2.1) (
      .ret (.int .i64 r0.1)) <|
    .jmp 0 [.int .i64 (IntKind.i64.wrap (r0.1 + (1 : Int)))]
theorem drvq_Queue_id.eq (x0 : Addr) : trOf Tryz.prog CC (.seq .o (.seq .o (.seq (.loop [3] [.sc (.int .i64)] .o) .o))) Tryz.f28 [.pointer (some x0)] = drvq_Queue_id.T x0 := by kernel_rfl
theorem drvq_Queue_id.calls (x0 : Addr) {R : Ending → World → Prop} {w : World} (h : (drvq_Queue_id.T x0).wp Tryz.prog R Conts.none w) : Calls Tryz.prog 28 #[.pointer (some x0)] w R :=
  calls_of_tr (args := [.pointer (some x0)]) hCC hMO Tryz.func28 ((drvq_Queue_id.eq x0).symm ▸ h)

/-- aqueduct/desc.Mark -/
def desc_Mark.T (x0 : Int) (x1 : Bool) (x2 : Bool) : Tr :=
  .bind 0 [.I] (
    .cond x1 (
      .jmp 0 [.int .i64 (bor IntKind.i64 (bandn IntKind.i64 x0 (32896 : Int)) (128 : Int))]) <|
    .jmp 0 [.int .i64 (bandn IntKind.i64 x0 (32896 : Int))]) fun (r0 : Int × Unit) =>
  .cond (x1 == x2) (
    .ret (.int .i64 (bor IntKind.i64 r0.1 (32768 : Int)))) <|
  .ret (.int .i64 r0.1)
theorem desc_Mark.eq (x0 : Int) (x1 : Bool) (x2 : Bool) : trOf Tryz.prog CC (.seq .o (.seq .o (.join [0] [.sc (.int .i64)] .o .o))) Tryz.f29 [.int .i64 x0, .bool x1, .bool x2] = desc_Mark.T x0 x1 x2 := by kernel_rfl
theorem desc_Mark.calls (x0 : Int) (x1 : Bool) (x2 : Bool) {R : Ending → World → Prop} {w : World} (h : (desc_Mark.T x0 x1 x2).wp Tryz.prog R Conts.none w) : Calls Tryz.prog 29 #[.int .i64 x0, .bool x1, .bool x2] w R :=
  calls_of_tr (args := [.int .i64 x0, .bool x1, .bool x2]) hCC hMO Tryz.func29 ((desc_Mark.eq x0 x1 x2).symm ▸ h)

/-- aqueduct/spot.Next -/
def spot_Next.T (x0 : Int × Bool × PUnit) (x1 : Int) (x2 : Int) : Tr :=
  .new 44 [.int .i64 x0.1, .bool x0.2.1] fun (a0 : Addr) =>
  .new 44 [.int .i64 0, .bool false] fun (a1 : Addr) =>
  .ld a0 (.agg [.I, .bool]) fun (r2 : Int × Bool × Unit) =>
  .call 63 #[.agg #[.int .i64 r2.1, .bool r2.2.1], .int .i64 x2] .I fun (i3 : Int) =>
  .cond (!decide (i3 = (0 : Int))) (
    .st a1 [.int .i64 0, .bool false] <|
    .ld a1 (.agg [.I, .bool]) fun (r4 : Int × Bool × Unit) =>
    .ret (.tuple #[.agg #[.int .i64 r4.1, .bool r4.2.1], .int .i64 i3])) <|
  .cond (decide (x1 < (0 : Int))) (
    .st a1 [.int .i64 0, .bool false] <|
    .ld a1 (.agg [.I, .bool]) fun (r5 : Int × Bool × Unit) =>
    .ret (.tuple #[.agg #[.int .i64 r5.1, .bool r5.2.1], .int .i64 1])) <|
  .cond (decide (x2 < x1)) (
    .st a1 [.int .i64 0, .bool false] <|
    .ld a1 (.agg [.I, .bool]) fun (r6 : Int × Bool × Unit) =>
    .ret (.tuple #[.agg #[.int .i64 r6.1, .bool r6.2.1], .int .i64 1])) <|
  .ld (a0.add 0) .I fun (i7 : Int) =>
  .st (a0.add 0) [.int .i64 (IntKind.i64.wrap (i7 + x1))] <|
  .ld (a0.add 0) .I fun (i8 : Int) =>
  .cond (decide (x2 ≤ i8)) (
    .ld (a0.add 0) .I fun (i9 : Int) =>
    .st (a0.add 0) [.int .i64 (IntKind.i64.wrap (i9 - x2))] <|
    .ld (a0.add 1) .B fun (b10 : Bool) =>
    .st (a0.add 1) [.bool (!b10)] <|
    .ld a0 (.agg [.I, .bool]) fun (r11 : Int × Bool × Unit) =>
    .st a1 [.int .i64 r11.1, .bool r11.2.1] <|
    .ld a1 (.agg [.I, .bool]) fun (r12 : Int × Bool × Unit) =>
    .ret (.tuple #[.agg #[.int .i64 r12.1, .bool r12.2.1], .int .i64 0])) <|
  .ld a0 (.agg [.I, .bool]) fun (r13 : Int × Bool × Unit) =>
  .st a1 [.int .i64 r13.1, .bool r13.2.1] <|
  .ld a1 (.agg [.I, .bool]) fun (r14 : Int × Bool × Unit) =>
  .ret (.tuple #[.agg #[.int .i64 r14.1, .bool r14.2.1], .int .i64 0])
theorem spot_Next.eq (x0 : Int × Bool × PUnit) (x1 : Int) (x2 : Int) : trOf Tryz.prog CC (.o) Tryz.f30 [.agg #[.int .i64 x0.fst, .bool x0.snd.fst], .int .i64 x1, .int .i64 x2] = spot_Next.T x0 x1 x2 := by kernel_rfl
theorem spot_Next.calls (x0 : Int × Bool × PUnit) (x1 : Int) (x2 : Int) {R : Ending → World → Prop} {w : World} (h : (spot_Next.T x0 x1 x2).wp Tryz.prog R Conts.none w) : Calls Tryz.prog 30 #[.agg #[.int .i64 x0.fst, .bool x0.snd.fst], .int .i64 x1, .int .i64 x2] w R :=
  calls_of_tr (args := [.agg #[.int .i64 x0.fst, .bool x0.snd.fst], .int .i64 x1, .int .i64 x2]) hCC hMO Tryz.func30 ((spot_Next.eq x0 x1 x2).symm ▸ h)

/-- (*aqueduct/aqueductref04.Memory).May -/
def aqueductref04_Memory_May.T (x0 : Addr) (x1 : Int) (x2 : Int) : Tr :=
  .cond (decide ((0 : Int) ≤ x1)) (
    .cond (decide ((0 : Int) ≤ x2)) (
      .ld (x0.add 0) .S fun (s0 : ByteArray) =>
      .cond (decide (x2 ≤ (↑s0.size : Int))) (
        .ld (x0.add 0) .S fun (s1 : ByteArray) =>
        .ret (.bool (decide (x1 ≤ IntKind.i64.wrap ((↑s1.size : Int) - x2))))) <|
      .ret (.bool false)) <|
    .ret (.bool false)) <|
  .ret (.bool false)
theorem aqueductref04_Memory_May.eq (x0 : Addr) (x1 : Int) (x2 : Int) : trOf Tryz.prog CC (.o) Tryz.f31 [.pointer (some x0), .int .i64 x1, .int .i64 x2] = aqueductref04_Memory_May.T x0 x1 x2 := by kernel_rfl
theorem aqueductref04_Memory_May.calls (x0 : Addr) (x1 : Int) (x2 : Int) {R : Ending → World → Prop} {w : World} (h : (aqueductref04_Memory_May.T x0 x1 x2).wp Tryz.prog R Conts.none w) : Calls Tryz.prog 31 #[.pointer (some x0), .int .i64 x1, .int .i64 x2] w R :=
  calls_of_tr (args := [.pointer (some x0), .int .i64 x1, .int .i64 x2]) hCC hMO Tryz.func31 ((aqueductref04_Memory_May.eq x0 x1 x2).symm ▸ h)

/-- (*aqueduct/aqueductref15.Queue).Free -/
def aqueductref15_Queue_Free.T (x0 : Addr) : Tr :=
  .ld ((x0.add 1).add 1) .I fun (i0 : Int) =>
  .loop 0 [.I, .I] ((i0, (0 : Int), ())) fun (r1 : Int × Int × Unit) =>
    .ld (x0.add 12) .L fun (l2 : Sl) =>
    .cond (decide (r1.2.1 < (↑l2.n : Int))) (
      .ld (x0.add 12) .L fun (l3 : Sl) =>
      .need ((0 : Int) ≤ r1.2.1 ∧ r1.2.1 < (↑l3.n : Int)) <|
      .nil l3.a fun (a4 : Addr) =>
      .ld (a4.add (Int.toNat r1.2.1 * 1)) .I fun (i5 : Int) =>
      .jmp 0 [.int .i64 (IntKind.i64.wrap (r1.1 - i5)), .int .i64 (IntKind.i64.wrap (r1.2.1 + (1 : Int)))]) <|
    .ret (.int .i64 r1.1)
theorem aqueductref15_Queue_Free.eq (x0 : Addr) : trOf Tryz.prog CC (.seq .o (.seq .o (.seq (.seq .o (.seq (.loop [3, 4] [.sc (.int .i64), .sc (.int .i64)] .o) .o)) .o))) Tryz.f32 [.pointer (some x0)] = aqueductref15_Queue_Free.T x0 := by kernel_rfl
theorem aqueductref15_Queue_Free.calls (x0 : Addr) {R : Ending → World → Prop} {w : World} (h : (aqueductref15_Queue_Free.T x0).wp Tryz.prog R Conts.none w) : Calls Tryz.prog 32 #[.pointer (some x0)] w R :=
  calls_of_tr (args := [.pointer (some x0)]) hCC hMO Tryz.func32 ((aqueductref15_Queue_Free.eq x0).symm ▸ h)

/-- aqueduct/aqueductref13.Next -/
def aqueductref13_Next.T (x0 : Int × Bool × PUnit) (x1 : Int) (x2 : Int) : Tr :=
  .new 44 [.int .i64 x0.1, .bool x0.2.1] fun (a0 : Addr) =>
  .new 44 [.int .i64 0, .bool false] fun (a1 : Addr) =>
  .ld a0 (.agg [.I, .bool]) fun (r2 : Int × Bool × Unit) =>
  .call 64 #[.agg #[.int .i64 r2.1, .bool r2.2.1], .int .i64 x2] .I fun (i3 : Int) =>
  .cond (!decide (i3 = (0 : Int))) (
    .st a1 [.int .i64 0, .bool false] <|
    .ld a1 (.agg [.I, .bool]) fun (r4 : Int × Bool × Unit) =>
    .ret (.tuple #[.agg #[.int .i64 r4.1, .bool r4.2.1], .int .i64 i3])) <|
  .cond (decide (x1 < (0 : Int))) (
    .st a1 [.int .i64 0, .bool false] <|
    .ld a1 (.agg [.I, .bool]) fun (r5 : Int × Bool × Unit) =>
    .ret (.tuple #[.agg #[.int .i64 r5.1, .bool r5.2.1], .int .i64 1])) <|
  .cond (decide (x2 < x1)) (
    .st a1 [.int .i64 0, .bool false] <|
    .ld a1 (.agg [.I, .bool]) fun (r6 : Int × Bool × Unit) =>
    .ret (.tuple #[.agg #[.int .i64 r6.1, .bool r6.2.1], .int .i64 1])) <|
  .loop 0 [.I] (((0 : Int), ())) fun (r7 : Int × Unit) =>
    .cond (decide (r7.1 < x1)) (
      .ld a0 (.agg [.I, .bool]) fun (r8 : Int × Bool × Unit) =>
      .call 65 #[.agg #[.int .i64 r8.1, .bool r8.2.1], .int .i64 x2] (.one (.agg [.I, .bool])) fun (r9 : Int × Bool × Unit) =>
      .st a0 [.int .i64 r9.1, .bool r9.2.1] <|
      .jmp 0 [.int .i64 (IntKind.i64.wrap (r7.1 + (1 : Int)))]) <|
    .ld a0 (.agg [.I, .bool]) fun (r10 : Int × Bool × Unit) =>
    .st a1 [.int .i64 r10.1, .bool r10.2.1] <|
    .ld a1 (.agg [.I, .bool]) fun (r11 : Int × Bool × Unit) =>
    .ret (.tuple #[.agg #[.int .i64 r11.1, .bool r11.2.1], .int .i64 0])
theorem aqueductref13_Next.eq (x0 : Int × Bool × PUnit) (x1 : Int) (x2 : Int) : trOf Tryz.prog CC (.seq .o (.seq .o (.seq .o (.seq .o (.seq (.seq .o (.seq (.loop [9] [.sc (.int .i64)] .o) .o)) .o))))) Tryz.f33 [.agg #[.int .i64 x0.fst, .bool x0.snd.fst], .int .i64 x1, .int .i64 x2] = aqueductref13_Next.T x0 x1 x2 := by kernel_rfl
theorem aqueductref13_Next.calls (x0 : Int × Bool × PUnit) (x1 : Int) (x2 : Int) {R : Ending → World → Prop} {w : World} (h : (aqueductref13_Next.T x0 x1 x2).wp Tryz.prog R Conts.none w) : Calls Tryz.prog 33 #[.agg #[.int .i64 x0.fst, .bool x0.snd.fst], .int .i64 x1, .int .i64 x2] w R :=
  calls_of_tr (args := [.agg #[.int .i64 x0.fst, .bool x0.snd.fst], .int .i64 x1, .int .i64 x2]) hCC hMO Tryz.func33 ((aqueductref13_Next.eq x0 x1 x2).symm ▸ h)

/-- aqueduct/aqueductref12.Build -/
def aqueductref12_Build.T (x0 : Int × Int × Int × Int × PUnit) : Tr :=
  .new 87 [.int .u64 x0.1, .int .u32 x0.2.1, .int .i64 x0.2.2.1, .int .i64 x0.2.2.2.1] fun (a0 : Addr) =>
  .ld (a0.add 2) .I fun (i1 : Int) =>
  .cond (decide (i1 < (0 : Int))) (
    .ret (.tuple #[.string (ByteArray.mk #[]), .int .i64 1])) <|
  .ld (a0.add 2) .I fun (i2 : Int) =>
  .cond (decide ((65535 : Int) < i2)) (
    .ret (.tuple #[.string (ByteArray.mk #[]), .int .i64 1])) <|
  .ld (a0.add 3) .I fun (i3 : Int) =>
  .cond (decide (i3 < (0 : Int))) (
    .ret (.tuple #[.string (ByteArray.mk #[]), .int .i64 1])) <|
  .ld (a0.add 3) .I fun (i4 : Int) =>
  .cond (decide ((65535 : Int) < i4)) (
    .ret (.tuple #[.string (ByteArray.mk #[]), .int .i64 1])) <|
  .ld (a0.add 0) .U64 fun (i5 : Int) =>
  .call 66 #[.int .u64 i5, .int .i64 8, .bool false] (.tup [.S, .I]) fun (r6 : ByteArray × Int × Unit) =>
  .ld (a0.add 1) .U32 fun (i7 : Int) =>
  .call 66 #[.int .u64 (IntKind.u64.wrap i7), .int .i64 4, .bool false] (.tup [.S, .I]) fun (r8 : ByteArray × Int × Unit) =>
  .ld (a0.add 2) .I fun (i9 : Int) =>
  .call 66 #[.int .u64 (IntKind.u64.wrap i9), .int .i64 2, .bool false] (.tup [.S, .I]) fun (r10 : ByteArray × Int × Unit) =>
  .ld (a0.add 3) .I fun (i11 : Int) =>
  .call 66 #[.int .u64 (IntKind.u64.wrap i11), .int .i64 2, .bool false] (.tup [.S, .I]) fun (r12 : ByteArray × Int × Unit) =>
  .need (ByteArray.size r6.1 + ByteArray.size r8.1 ≤ 9223372036854775807) <|
  .need ((r6.1 ++ r8.1).size + ByteArray.size r10.1 ≤ 9223372036854775807) <|
  .need ((r6.1 ++ r8.1 ++ r10.1).size + ByteArray.size r12.1 ≤ 9223372036854775807) <|
  .ret (.tuple #[.string (r6.1 ++ r8.1 ++ r10.1 ++ r12.1), .int .i64 0])
theorem aqueductref12_Build.eq (x0 : Int × Int × Int × Int × PUnit) : trOf Tryz.prog CC (.o) Tryz.f34 [.agg #[.int .u64 x0.fst, .int .u32 x0.snd.fst, .int .i64 x0.snd.snd.fst, .int .i64 x0.snd.snd.snd.fst]] = aqueductref12_Build.T x0 := by kernel_rfl
theorem aqueductref12_Build.calls (x0 : Int × Int × Int × Int × PUnit) {R : Ending → World → Prop} {w : World} (h : (aqueductref12_Build.T x0).wp Tryz.prog R Conts.none w) : Calls Tryz.prog 34 #[.agg #[.int .u64 x0.fst, .int .u32 x0.snd.fst, .int .i64 x0.snd.snd.fst, .int .i64 x0.snd.snd.snd.fst]] w R :=
  calls_of_tr (args := [.agg #[.int .u64 x0.fst, .int .u32 x0.snd.fst, .int .i64 x0.snd.snd.fst, .int .i64 x0.snd.snd.snd.fst]]) hCC hMO Tryz.func34 ((aqueductref12_Build.eq x0).symm ▸ h)

/-- aqueduct/aqueductref12.Mark -/
def aqueductref12_Mark.T (x0 : Int) (x1 : Bool) (x2 : Bool) : Tr :=
  .need ((128 : Int) ≠ (0 : Int)) <|
  .need ((2 : Int) ≠ (0 : Int)) <|
  .need ((32768 : Int) ≠ (0 : Int)) <|
  .need ((2 : Int) ≠ (0 : Int)) <|
  .bind 0 [.I] (
    .cond x1 (
      .jmp 0 [.int .i64 (IntKind.i64.wrap (IntKind.i64.wrap (IntKind.i64.wrap (x0 - IntKind.i64.wrap ((IntKind.i64.wrap (x0.tdiv (128 : Int))).tmod (2 : Int) * (128 : Int))) - IntKind.i64.wrap ((IntKind.i64.wrap (x0.tdiv (32768 : Int))).tmod (2 : Int) * (32768 : Int))) + (128 : Int)))]) <|
    .jmp 0 [.int .i64 (IntKind.i64.wrap (IntKind.i64.wrap (x0 - IntKind.i64.wrap ((IntKind.i64.wrap (x0.tdiv (128 : Int))).tmod (2 : Int) * (128 : Int))) - IntKind.i64.wrap ((IntKind.i64.wrap (x0.tdiv (32768 : Int))).tmod (2 : Int) * (32768 : Int))))]) fun (r0 : Int × Unit) =>
  .cond x2 (
    .cond x1 (
      .ret (.int .i64 (IntKind.i64.wrap (r0.1 + (32768 : Int))))) <|
    .cond (!x2) (
      .cond (!x1) (
        .ret (.int .i64 (IntKind.i64.wrap (r0.1 + (32768 : Int))))) <|
      .ret (.int .i64 r0.1)) <|
    .ret (.int .i64 r0.1)) <|
  .cond (!x2) (
    .cond (!x1) (
      .ret (.int .i64 (IntKind.i64.wrap (r0.1 + (32768 : Int))))) <|
    .ret (.int .i64 r0.1)) <|
  .ret (.int .i64 r0.1)
theorem aqueductref12_Mark.eq (x0 : Int) (x1 : Bool) (x2 : Bool) : trOf Tryz.prog CC (.seq .o (.seq .o (.join [7] [.sc (.int .i64)] .o .o))) Tryz.f35 [.int .i64 x0, .bool x1, .bool x2] = aqueductref12_Mark.T x0 x1 x2 := by kernel_rfl
theorem aqueductref12_Mark.calls (x0 : Int) (x1 : Bool) (x2 : Bool) {R : Ending → World → Prop} {w : World} (h : (aqueductref12_Mark.T x0 x1 x2).wp Tryz.prog R Conts.none w) : Calls Tryz.prog 35 #[.int .i64 x0, .bool x1, .bool x2] w R :=
  calls_of_tr (args := [.int .i64 x0, .bool x1, .bool x2]) hCC hMO Tryz.func35 ((aqueductref12_Mark.eq x0 x1 x2).symm ▸ h)

/-- (*aqueduct/gmem.Memory).Read -/
def gmem_Memory_Read.T (x0 : Addr) (x1 : Int) (x2 : Int) : Tr :=
  .cond (decide (x2 < (0 : Int))) (
    .ret (.tuple #[.string (ByteArray.mk #[]), .int .i64 1])) <|
  .call 41 #[.pointer (some x0), .int .i64 x1, .int .i64 x2] .B fun (b0 : Bool) =>
  .cond (!b0) (
    .ret (.tuple #[.string (ByteArray.mk #[]), .int .i64 41])) <|
  .call 42 #[.pointer (some x0), .int .i64 x1, .int .i64 x2, .bool false] (.tup []) fun (u1 : Unit) =>
  .ld (x0.add 0) .L fun (l2 : Sl) =>
  .need ((0 : Int) ≤ IntKind.i64.wrap (x1 + x2) ∧ IntKind.i64.wrap (x1 + x2) ≤ (↑l2.c : Int) ∧ (0 : Int) ≤ x1 ∧ x1 ≤ IntKind.i64.wrap (x1 + x2)) <|
  .sem (Go.convert (65) (9) (.slice (slB l2.a x1.toNat 1 l2.c) ((IntKind.i64.wrap (x1 + x2)).toNat - x1.toNat) (l2.c - x1.toNat))) .S fun (s3 : ByteArray) =>
  .ret (.tuple #[.string s3, .int .i64 0])
theorem gmem_Memory_Read.eq (x0 : Addr) (x1 : Int) (x2 : Int) : trOf Tryz.prog CC (.o) Tryz.f36 [.pointer (some x0), .int .i64 x1, .int .i64 x2] = gmem_Memory_Read.T x0 x1 x2 := by kernel_rfl
theorem gmem_Memory_Read.calls (x0 : Addr) (x1 : Int) (x2 : Int) {R : Ending → World → Prop} {w : World} (h : (gmem_Memory_Read.T x0 x1 x2).wp Tryz.prog R Conts.none w) : Calls Tryz.prog 36 #[.pointer (some x0), .int .i64 x1, .int .i64 x2] w R :=
  calls_of_tr (args := [.pointer (some x0), .int .i64 x1, .int .i64 x2]) hCC hMO Tryz.func36 ((gmem_Memory_Read.eq x0 x1 x2).symm ▸ h)

/-- aqueduct/desc.Parse -/
def desc_Parse.T (x0 : ByteArray) : Tr :=
  .new 9 [.string x0] fun (a0 : Addr) =>
  .new 87 [.int .u64 0, .int .u32 0, .int .i64 0, .int .i64 0] fun (a1 : Addr) =>
  .ld a0 .S fun (s2 : ByteArray) =>
  .cond (!decide ((↑s2.size : Int) = (16 : Int))) (
    .st a1 [.int .u64 0, .int .u32 0, .int .i64 0, .int .i64 0] <|
    .ld a1 (.agg [.U64, .U32, .I, .I]) fun (r3 : Int × Int × Int × Int × Unit) =>
    .ret (.tuple #[.agg #[.int .u64 r3.1, .int .u32 r3.2.1, .int .i64 r3.2.2.1, .int .i64 r3.2.2.2.1], .int .i64 1])) <|
  .callv false (.func (Fn.func 67) #[] #[.pointer (some a0)]) #[.int .i64 0, .int .i64 8] .U64 fun (i4 : Int) =>
  .callv false (.func (Fn.func 67) #[] #[.pointer (some a0)]) #[.int .i64 8, .int .i64 4] .U64 fun (i5 : Int) =>
  .callv false (.func (Fn.func 67) #[] #[.pointer (some a0)]) #[.int .i64 12, .int .i64 2] .U64 fun (i6 : Int) =>
  .callv false (.func (Fn.func 67) #[] #[.pointer (some a0)]) #[.int .i64 14, .int .i64 2] .U64 fun (i7 : Int) =>
  .st a1 [.int .u64 i4, .int .u32 (IntKind.u32.wrap i5), .int .i64 (IntKind.i64.wrap i6), .int .i64 (IntKind.i64.wrap i7)] <|
  .ld a1 (.agg [.U64, .U32, .I, .I]) fun (r8 : Int × Int × Int × Int × Unit) =>
  .ret (.tuple #[.agg #[.int .u64 r8.1, .int .u32 r8.2.1, .int .i64 r8.2.2.1, .int .i64 r8.2.2.2.1], .int .i64 0])
theorem desc_Parse.eq (x0 : ByteArray) : trOf Tryz.prog CC (.o) Tryz.f37 [.string x0] = desc_Parse.T x0 := by kernel_rfl
theorem desc_Parse.calls (x0 : ByteArray) {R : Ending → World → Prop} {w : World} (h : (desc_Parse.T x0).wp Tryz.prog R Conts.none w) : Calls Tryz.prog 37 #[.string x0] w R :=
  calls_of_tr (args := [.string x0]) hCC hMO Tryz.func37 ((desc_Parse.eq x0).symm ▸ h)

/-- aqueduct/desc.Used -/
def desc_Used.T (x0 : Int) (x1 : Bool) : Tr :=
  .call 69 #[.int .i64 x0, .bool x1] .I fun (i0 : Int) =>
  .ret (.bool (decide (i0 = (2 : Int))))
theorem desc_Used.eq (x0 : Int) (x1 : Bool) : trOf Tryz.prog CC (.o) Tryz.f38 [.int .i64 x0, .bool x1] = desc_Used.T x0 x1 := by kernel_rfl
theorem desc_Used.calls (x0 : Int) (x1 : Bool) {R : Ending → World → Prop} {w : World} (h : (desc_Used.T x0 x1).wp Tryz.prog R Conts.none w) : Calls Tryz.prog 38 #[.int .i64 x0, .bool x1] w R :=
  calls_of_tr (args := [.int .i64 x0, .bool x1]) hCC hMO Tryz.func38 ((desc_Used.eq x0 x1).symm ▸ h)

/-- aqueduct/aqueductref12.Parse -/
def aqueductref12_Parse.T (x0 : ByteArray) : Tr :=
  .new 87 [.int .u64 0, .int .u32 0, .int .i64 0, .int .i64 0] fun (a0 : Addr) =>
  .cond (!decide ((↑x0.size : Int) = (16 : Int))) (
    .st a0 [.int .u64 0, .int .u32 0, .int .i64 0, .int .i64 0] <|
    .ld a0 (.agg [.U64, .U32, .I, .I]) fun (r1 : Int × Int × Int × Int × Unit) =>
    .ret (.tuple #[.agg #[.int .u64 r1.1, .int .u32 r1.2.1, .int .i64 r1.2.2.1, .int .i64 r1.2.2.2.1], .int .i64 1])) <|
  .call 70 #[.string x0, .int .i64 0, .int .i64 8, .bool false] (.tup [.U64, .I]) fun (r2 : Int × Int × Unit) =>
  .call 70 #[.string x0, .int .i64 8, .int .i64 4, .bool false] (.tup [.U64, .I]) fun (r3 : Int × Int × Unit) =>
  .call 70 #[.string x0, .int .i64 12, .int .i64 2, .bool false] (.tup [.U64, .I]) fun (r4 : Int × Int × Unit) =>
  .call 70 #[.string x0, .int .i64 14, .int .i64 2, .bool false] (.tup [.U64, .I]) fun (r5 : Int × Int × Unit) =>
  .st a0 [.int .u64 r2.1, .int .u32 (IntKind.u32.wrap r3.1), .int .i64 (IntKind.i64.wrap r4.1), .int .i64 (IntKind.i64.wrap r5.1)] <|
  .ld a0 (.agg [.U64, .U32, .I, .I]) fun (r6 : Int × Int × Int × Int × Unit) =>
  .ret (.tuple #[.agg #[.int .u64 r6.1, .int .u32 r6.2.1, .int .i64 r6.2.2.1, .int .i64 r6.2.2.2.1], .int .i64 0])
theorem aqueductref12_Parse.eq (x0 : ByteArray) : trOf Tryz.prog CC (.o) Tryz.f39 [.string x0] = aqueductref12_Parse.T x0 := by kernel_rfl
theorem aqueductref12_Parse.calls (x0 : ByteArray) {R : Ending → World → Prop} {w : World} (h : (aqueductref12_Parse.T x0).wp Tryz.prog R Conts.none w) : Calls Tryz.prog 39 #[.string x0] w R :=
  calls_of_tr (args := [.string x0]) hCC hMO Tryz.func39 ((aqueductref12_Parse.eq x0).symm ▸ h)

/-- aqueduct/aqueductref12.Used -/
def aqueductref12_Used.T (x0 : Int) (x1 : Bool) : Tr :=
  .need ((128 : Int) ≠ (0 : Int)) <|
  .need ((2 : Int) ≠ (0 : Int)) <|
  .need ((32768 : Int) ≠ (0 : Int)) <|
  .need ((2 : Int) ≠ (0 : Int)) <|
  .cond (decide ((IntKind.i64.wrap (x0.tdiv (128 : Int))).tmod (2 : Int) = (1 : Int)) == x1) (
    .ret (.bool (decide ((IntKind.i64.wrap (x0.tdiv (32768 : Int))).tmod (2 : Int) = (1 : Int)) == x1))) <|
  .ret (.bool false)
theorem aqueductref12_Used.eq (x0 : Int) (x1 : Bool) : trOf Tryz.prog CC (.o) Tryz.f40 [.int .i64 x0, .bool x1] = aqueductref12_Used.T x0 x1 := by kernel_rfl
theorem aqueductref12_Used.calls (x0 : Int) (x1 : Bool) {R : Ending → World → Prop} {w : World} (h : (aqueductref12_Used.T x0 x1).wp Tryz.prog R Conts.none w) : Calls Tryz.prog 40 #[.int .i64 x0, .bool x1] w R :=
  calls_of_tr (args := [.int .i64 x0, .bool x1]) hCC hMO Tryz.func40 ((aqueductref12_Used.eq x0 x1).symm ▸ h)

/-- (*aqueduct/gmem.Memory).May -/
def gmem_Memory_May.T (x0 : Addr) (x1 : Int) (x2 : Int) : Tr :=
  .cond (decide ((0 : Int) ≤ x1)) (
    .cond (decide ((0 : Int) ≤ x2)) (
      .ld (x0.add 0) .L fun (l0 : Sl) =>
      .cond (decide (x2 ≤ (↑l0.n : Int))) (
        .ld (x0.add 0) .L fun (l1 : Sl) =>
        .ret (.bool (decide (x1 ≤ IntKind.i64.wrap ((↑l1.n : Int) - x2))))) <|
      .ret (.bool false)) <|
    .ret (.bool false)) <|
  .ret (.bool false)
theorem gmem_Memory_May.eq (x0 : Addr) (x1 : Int) (x2 : Int) : trOf Tryz.prog CC (.o) Tryz.f41 [.pointer (some x0), .int .i64 x1, .int .i64 x2] = gmem_Memory_May.T x0 x1 x2 := by kernel_rfl
theorem gmem_Memory_May.calls (x0 : Addr) (x1 : Int) (x2 : Int) {R : Ending → World → Prop} {w : World} (h : (gmem_Memory_May.T x0 x1 x2).wp Tryz.prog R Conts.none w) : Calls Tryz.prog 41 #[.pointer (some x0), .int .i64 x1, .int .i64 x2] w R :=
  calls_of_tr (args := [.pointer (some x0), .int .i64 x1, .int .i64 x2]) hCC hMO Tryz.func41 ((gmem_Memory_May.eq x0 x1 x2).symm ▸ h)

/-- (*aqueduct/gmem.Memory).note -/
def gmem_Memory_note.T (x0 : Addr) (x1 : Int) (x2 : Int) (x3 : Bool) : Tr :=
  .cond (decide (x2 = (0 : Int))) (
    .ret (.tuple #[])) <|
  .tick <|
  .ld (x0.add 2) .L fun (l0 : Sl) =>
  .ld (x0.add 1) .I fun (i1 : Int) =>
  .new 103 [.int .i64 i1, .int .i64 x1, .int .i64 x2, .bool x3] fun (a2 : Addr) =>
  .keep [(x0.add 2, [.slice l0.a l0.n l0.c])] <|
  .sem (Go.Builtin.append_ #[71, 71] (71) #[.slice l0.a l0.n l0.c, .slice (some a2) (1) (1)]) .L fun (l3 : Sl) =>
  .st (x0.add 2) [.slice l3.a l3.n l3.c] <|
  .ld (x0.add 2) .L fun (l4 : Sl) =>
  .cond (decide ((8192 : Int) < (↑l4.n : Int))) (
    .tick <|
    .ld (x0.add 2) .L fun (l5 : Sl) =>
    .ld (x0.add 2) .L fun (l6 : Sl) =>
    .need ((0 : Int) ≤ IntKind.i64.wrap ((↑l6.n : Int) - (4096 : Int)) ∧ IntKind.i64.wrap ((↑l6.n : Int) - (4096 : Int)) ≤ (↑l5.n : Int)) <|
    .calln 51 #[.slice (slB l5.a (IntKind.i64.wrap ((↑l6.n : Int) - (4096 : Int))).toNat 4 l5.c) (l5.n - (IntKind.i64.wrap ((↑l6.n : Int) - (4096 : Int))).toNat) (l5.c - (IntKind.i64.wrap ((↑l6.n : Int) - (4096 : Int))).toNat)] .L fun (l7 : Sl) =>
    .st (x0.add 2) [.slice l7.a l7.n l7.c] <|
    .ret (.tuple #[])) <|
  .ret (.tuple #[])
theorem gmem_Memory_note.eq (x0 : Addr) (x1 : Int) (x2 : Int) (x3 : Bool) : trOf Tryz.prog CC (.o) Tryz.f42 [.pointer (some x0), .int .i64 x1, .int .i64 x2, .bool x3] = gmem_Memory_note.T x0 x1 x2 x3 := by kernel_rfl
theorem gmem_Memory_note.calls (x0 : Addr) (x1 : Int) (x2 : Int) (x3 : Bool) {R : Ending → World → Prop} {w : World} (h : (gmem_Memory_note.T x0 x1 x2 x3).wp Tryz.prog R Conts.none w) : Calls Tryz.prog 42 #[.pointer (some x0), .int .i64 x1, .int .i64 x2, .bool x3] w R :=
  calls_of_tr (args := [.pointer (some x0), .int .i64 x1, .int .i64 x2, .bool x3]) hCC hMO Tryz.func42 ((gmem_Memory_note.eq x0 x1 x2 x3).symm ▸ h)

/-- (*aqueduct/aqueductref04.Memory).note -/
def aqueductref04_Memory_note.T (x0 : Addr) (x1 : Int) (x2 : Int) (x3 : Bool) : Tr :=
  .bind 0 [] (
    .cond (decide ((0 : Int) < x2)) (
      .tick <|
      .ld (x0.add 2) .L fun (l0 : Sl) =>
      .ld (x0.add 1) .I fun (i1 : Int) =>
      .both (
        .new 103 [] fun (a2 : Addr) =>
        .keep [(x0.add 1, [.int .i64 i1]), (x0.add 2, [.slice l0.a l0.n l0.c])] <|
        .both (
          .sem (Go.Builtin.append_ #[71, 71] (71) #[.slice (some a2) (0) (0), .slice l0.a l0.n l0.c]) .L fun (l3 : Sl) =>
          .keep [(x0.add 1, [.int .i64 i1])] <|
          .new 103 [.int .i64 i1, .int .i64 x1, .int .i64 x2, .bool x3] fun (a4 : Addr) =>
          .sem (Go.Builtin.append_ #[71, 71] (71) #[.slice l3.a l3.n l3.c, .slice (some a4) (1) (1)]) .L fun (l5 : Sl) =>
          .st (x0.add 2) [.slice l5.a l5.n l5.c] <|
          .jmp 0 []) <|
        .new 103 [.int .i64 i1, .int .i64 x1, .int .i64 x2, .bool x3] fun (a6 : Addr) =>
        .keep [(x0.add 2, [.slice l0.a l0.n l0.c])] <|
        .sem (Go.Builtin.append_ #[71, 71] (71) #[.slice (some a2) (0) (0), .slice l0.a l0.n l0.c]) .L fun (l7 : Sl) =>
        .sem (Go.Builtin.append_ #[71, 71] (71) #[.slice l7.a l7.n l7.c, .slice (some a6) (1) (1)]) .L fun (l8 : Sl) =>
        .st (x0.add 2) [.slice l8.a l8.n l8.c] <|
        .jmp 0 []) <|
      .new 103 [.int .i64 i1, .int .i64 x1, .int .i64 x2, .bool x3] fun (a9 : Addr) =>
      .keep [(x0.add 2, [.slice l0.a l0.n l0.c])] <|
      .new 103 [] fun (a10 : Addr) =>
      .keep [(x0.add 2, [.slice l0.a l0.n l0.c])] <|
      .sem (Go.Builtin.append_ #[71, 71] (71) #[.slice (some a10) (0) (0), .slice l0.a l0.n l0.c]) .L fun (l11 : Sl) =>
      .sem (Go.Builtin.append_ #[71, 71] (71) #[.slice l11.a l11.n l11.c, .slice (some a9) (1) (1)]) .L fun (l12 : Sl) =>
      .st (x0.add 2) [.slice l12.a l12.n l12.c] <|
      .jmp 0 []) <|
    .jmp 0 []) fun (u13 : Unit) =>
  .ld (x0.add 2) .L fun (l14 : Sl) =>
  .cond (decide ((4096 : Int) < (↑l14.n : Int))) (
    .ld (x0.add 2) .L fun (l15 : Sl) =>
    .need ((0 : Int) ≤ (1 : Int) ∧ (1 : Int) ≤ (↑l15.n : Int)) <|
    .st (x0.add 2) [.slice (slB l15.a (Int.toNat (1 : Int)) 4 l15.c) (l15.n - Int.toNat (1 : Int)) (l15.c - Int.toNat (1 : Int))] <|
    .ret (.tuple #[])) <|
  .ret (.tuple #[])
theorem aqueductref04_Memory_note.eq (x0 : Addr) (x1 : Int) (x2 : Int) (x3 : Bool) : trOf Tryz.prog CC (.join [] [] .o .o) Tryz.f43 [.pointer (some x0), .int .i64 x1, .int .i64 x2, .bool x3] = aqueductref04_Memory_note.T x0 x1 x2 x3 := by kernel_rfl
theorem aqueductref04_Memory_note.calls (x0 : Addr) (x1 : Int) (x2 : Int) (x3 : Bool) {R : Ending → World → Prop} {w : World} (h : (aqueductref04_Memory_note.T x0 x1 x2 x3).wp Tryz.prog R Conts.none w) : Calls Tryz.prog 43 #[.pointer (some x0), .int .i64 x1, .int .i64 x2, .bool x3] w R :=
  calls_of_tr (args := [.pointer (some x0), .int .i64 x1, .int .i64 x2, .bool x3]) hCC hMO Tryz.func43 ((aqueductref04_Memory_note.eq x0 x1 x2 x3).symm ▸ h)

/-- aqueduct/spot.Parse -/
def spot_Parse.T (x0 : ByteArray) : Tr :=
  .new 34 [.int .i64 0, .bool false, .int .i64 0] fun (a0 : Addr) =>
  .cond (!decide ((↑x0.size : Int) = (4 : Int))) (
    .st a0 [.int .i64 0, .bool false, .int .i64 0] <|
    .ld a0 (.agg [.I, .bool, .I]) fun (r1 : Int × Bool × Int × Unit) =>
    .ret (.tuple #[.agg #[.int .i64 r1.1, .bool r1.2.1, .int .i64 r1.2.2.1], .int .i64 1])) <|
  .call 68 #[.string x0, .int .i64 0, .int .i64 2, .bool false] (.tup [.U64, .I]) fun (r2 : Int × Int × Unit) =>
  .call 68 #[.string x0, .int .i64 2, .int .i64 2, .bool false] (.tup [.U64, .I]) fun (r3 : Int × Int × Unit) =>
  .st a0 [.int .i64 (bandn IntKind.i64 (IntKind.i64.wrap r2.1) (32768 : Int)), .bool (!decide (band IntKind.u64 r2.1 (32768 : Int) = (0 : Int))), .int .i64 (IntKind.i64.wrap r3.1)] <|
  .ld a0 (.agg [.I, .bool, .I]) fun (r4 : Int × Bool × Int × Unit) =>
  .ret (.tuple #[.agg #[.int .i64 r4.1, .bool r4.2.1, .int .i64 r4.2.2.1], .int .i64 0])
theorem spot_Parse.eq (x0 : ByteArray) : trOf Tryz.prog CC (.o) Tryz.f44 [.string x0] = spot_Parse.T x0 := by kernel_rfl
theorem spot_Parse.calls (x0 : ByteArray) {R : Ending → World → Prop} {w : World} (h : (spot_Parse.T x0).wp Tryz.prog R Conts.none w) : Calls Tryz.prog 44 #[.string x0] w R :=
  calls_of_tr (args := [.string x0]) hCC hMO Tryz.func44 ((spot_Parse.eq x0).symm ▸ h)

/-- aqueduct/spot.Need -/
def spot_Need.T (x0 : Int × Bool × Int × PUnit) (x1 : Int × Bool × PUnit) (x2 : Int × Bool × PUnit) (x3 : Int) : Tr :=
  .new 34 [.int .i64 x0.1, .bool x0.2.1, .int .i64 x0.2.2.1] fun (a0 : Addr) =>
  .new 44 [.int .i64 x1.1, .bool x1.2.1] fun (a1 : Addr) =>
  .new 44 [.int .i64 x2.1, .bool x2.2.1] fun (a2 : Addr) =>
  .ld a1 (.agg [.I, .bool]) fun (r3 : Int × Bool × Unit) =>
  .ld a2 (.agg [.I, .bool]) fun (r4 : Int × Bool × Unit) =>
  .call 71 #[.agg #[.int .i64 r3.1, .bool r3.2.1], .agg #[.int .i64 r4.1, .bool r4.2.1], .int .i64 x3] (.tup [.I, .I]) fun (r5 : Int × Int × Unit) =>
  .cond (!decide (r5.2.1 = (0 : Int))) (
    .ret (.bool false)) <|
  .cond (decide (x3 < r5.1)) (
    .ret (.bool false)) <|
  .ld (a0.add 2) .I fun (i6 : Int) =>
  .cond (decide (i6 = (0 : Int))) (
    .ld a1 (.agg [.I, .bool]) fun (r7 : Int × Bool × Unit) =>
    .ld a2 (.agg [.I, .bool]) fun (r8 : Int × Bool × Unit) =>
    .sem (eqSem BinOp.neq (44) (Operand.tmp 31) (Operand.tmp 32) (.agg #[.int .i64 r7.1, .bool r7.2.1]) (.agg #[.int .i64 r8.1, .bool r8.2.1])) .B fun (b9 : Bool) =>
    .ret (.bool b9)) <|
  .cond (decide (i6 = (2 : Int))) (
    .ld a1 (.agg [.I, .bool]) fun (r10 : Int × Bool × Unit) =>
    .ld (a0.add 0) .I fun (i11 : Int) =>
    .ld (a0.add 1) .B fun (b12 : Bool) =>
    .call 71 #[.agg #[.int .i64 r10.1, .bool r10.2.1], .agg #[.int .i64 i11, .bool b12], .int .i64 x3] (.tup [.I, .I]) fun (r13 : Int × Int × Unit) =>
    .cond (decide (r13.2.1 = (0 : Int))) (
      .ret (.bool (decide (r13.1 < r5.1)))) <|
    .ret (.bool false)) <|
  .ret (.bool false)
theorem spot_Need.eq (x0 : Int × Bool × Int × PUnit) (x1 : Int × Bool × PUnit) (x2 : Int × Bool × PUnit) (x3 : Int) : trOf Tryz.prog CC (.o) Tryz.f45 [.agg #[.int .i64 x0.fst, .bool x0.snd.fst, .int .i64 x0.snd.snd.fst], .agg #[.int .i64 x1.fst, .bool x1.snd.fst], .agg #[.int .i64 x2.fst, .bool x2.snd.fst], .int .i64 x3] = spot_Need.T x0 x1 x2 x3 := by kernel_rfl
theorem spot_Need.calls (x0 : Int × Bool × Int × PUnit) (x1 : Int × Bool × PUnit) (x2 : Int × Bool × PUnit) (x3 : Int) {R : Ending → World → Prop} {w : World} (h : (spot_Need.T x0 x1 x2 x3).wp Tryz.prog R Conts.none w) : Calls Tryz.prog 45 #[.agg #[.int .i64 x0.fst, .bool x0.snd.fst, .int .i64 x0.snd.snd.fst], .agg #[.int .i64 x1.fst, .bool x1.snd.fst], .agg #[.int .i64 x2.fst, .bool x2.snd.fst], .int .i64 x3] w R :=
  calls_of_tr (args := [.agg #[.int .i64 x0.fst, .bool x0.snd.fst, .int .i64 x0.snd.snd.fst], .agg #[.int .i64 x1.fst, .bool x1.snd.fst], .agg #[.int .i64 x2.fst, .bool x2.snd.fst], .int .i64 x3]) hCC hMO Tryz.func45 ((spot_Need.eq x0 x1 x2 x3).symm ▸ h)

/-- aqueduct/aqueductref13.Parse -/
def aqueductref13_Parse.T (x0 : ByteArray) : Tr :=
  .new 34 [.int .i64 0, .bool false, .int .i64 0] fun (a0 : Addr) =>
  .cond (!decide ((↑x0.size : Int) = (4 : Int))) (
    .st a0 [.int .i64 0, .bool false, .int .i64 0] <|
    .ld a0 (.agg [.I, .bool, .I]) fun (r1 : Int × Bool × Int × Unit) =>
    .ret (.tuple #[.agg #[.int .i64 r1.1, .bool r1.2.1, .int .i64 r1.2.2.1], .int .i64 1])) <|
  .tick <|
  .need ((0 : Int) ≤ (0 : Int) ∧ (0 : Int) < (↑x0.size : Int)) <|
  .need ((0 : Int) ≤ (1 : Int) ∧ (1 : Int) < (↑x0.size : Int)) <|
  .tick <|
  .need ((32768 : Int) ≠ (0 : Int)) <|
  .need ((0 : Int) ≤ (2 : Int) ∧ (2 : Int) < (↑x0.size : Int)) <|
  .need ((0 : Int) ≤ (3 : Int) ∧ (3 : Int) < (↑x0.size : Int)) <|
  .st a0 [.int .i64 ((IntKind.i64.wrap (IntKind.i64.wrap (bt x0 (0 : Int)) + IntKind.i64.wrap ((256 : Int) * IntKind.i64.wrap (bt x0 (1 : Int))))).tmod (32768 : Int)), .bool (decide ((32768 : Int) ≤ IntKind.i64.wrap (IntKind.i64.wrap (bt x0 (0 : Int)) + IntKind.i64.wrap ((256 : Int) * IntKind.i64.wrap (bt x0 (1 : Int)))))), .int .i64 (IntKind.i64.wrap (IntKind.i64.wrap (bt x0 (2 : Int)) + IntKind.i64.wrap ((256 : Int) * IntKind.i64.wrap (bt x0 (3 : Int)))))] <|
  .ld a0 (.agg [.I, .bool, .I]) fun (r2 : Int × Bool × Int × Unit) =>
  .ret (.tuple #[.agg #[.int .i64 r2.1, .bool r2.2.1, .int .i64 r2.2.2.1], .int .i64 0])
theorem aqueductref13_Parse.eq (x0 : ByteArray) : trOf Tryz.prog CC (.o) Tryz.f46 [.string x0] = aqueductref13_Parse.T x0 := by kernel_rfl
theorem aqueductref13_Parse.calls (x0 : ByteArray) {R : Ending → World → Prop} {w : World} (h : (aqueductref13_Parse.T x0).wp Tryz.prog R Conts.none w) : Calls Tryz.prog 46 #[.string x0] w R :=
  calls_of_tr (args := [.string x0]) hCC hMO Tryz.func46 ((aqueductref13_Parse.eq x0).symm ▸ h)

/-- aqueduct/aqueductref13.Need -/
def aqueductref13_Need.T (x0 : Int × Bool × Int × PUnit) (x1 : Int × Bool × PUnit) (x2 : Int × Bool × PUnit) (x3 : Int) : Tr :=
  .new 34 [.int .i64 x0.1, .bool x0.2.1, .int .i64 x0.2.2.1] fun (a0 : Addr) =>
  .new 44 [.int .i64 x1.1, .bool x1.2.1] fun (a1 : Addr) =>
  .new 44 [.int .i64 x2.1, .bool x2.2.1] fun (a2 : Addr) =>
  .ld a1 (.agg [.I, .bool]) fun (r3 : Int × Bool × Unit) =>
  .ld a2 (.agg [.I, .bool]) fun (r4 : Int × Bool × Unit) =>
  .call 72 #[.agg #[.int .i64 r3.1, .bool r3.2.1], .agg #[.int .i64 r4.1, .bool r4.2.1], .int .i64 x3] (.tup [.I, .I]) fun (r5 : Int × Int × Unit) =>
  .cond (!decide (r5.2.1 = (0 : Int))) (
    .ret (.bool false)) <|
  .cond (decide (x3 < r5.1)) (
    .ret (.bool false)) <|
  .ld (a0.add 2) .I fun (i6 : Int) =>
  .cond (decide (i6 = (0 : Int))) (
    .ret (.bool (decide ((0 : Int) < r5.1)))) <|
  .loop 0 [.I] (((0 : Int), ())) fun (r7 : Int × Unit) =>
    .cond (decide (r7.1 < r5.1)) (
      .ld (a0.add 2) .I fun (i8 : Int) =>
      .cond (decide (i8 = (2 : Int))) (
        .ld (a1.add 0) .I fun (i9 : Int) =>
        .ld (a0.add 0) .I fun (i10 : Int) =>
        .cond (decide (i9 = i10)) (
          .ld (a1.add 1) .B fun (b11 : Bool) =>
          .ld (a0.add 1) .B fun (b12 : Bool) =>
          .cond (b11 == b12) (
            .ret (.bool true)) <|
          .ld a1 (.agg [.I, .bool]) fun (r13 : Int × Bool × Unit) =>
          .call 65 #[.agg #[.int .i64 r13.1, .bool r13.2.1], .int .i64 x3] (.one (.agg [.I, .bool])) fun (r14 : Int × Bool × Unit) =>
          .st a1 [.int .i64 r14.1, .bool r14.2.1] <|
          .jmp 0 [.int .i64 (IntKind.i64.wrap (r7.1 + (1 : Int)))]) <|
        .ld a1 (.agg [.I, .bool]) fun (r15 : Int × Bool × Unit) =>
        .call 65 #[.agg #[.int .i64 r15.1, .bool r15.2.1], .int .i64 x3] (.one (.agg [.I, .bool])) fun (r16 : Int × Bool × Unit) =>
        .st a1 [.int .i64 r16.1, .bool r16.2.1] <|
        .jmp 0 [.int .i64 (IntKind.i64.wrap (r7.1 + (1 : Int)))]) <|
      .ld a1 (.agg [.I, .bool]) fun (r17 : Int × Bool × Unit) =>
      .call 65 #[.agg #[.int .i64 r17.1, .bool r17.2.1], .int .i64 x3] (.one (.agg [.I, .bool])) fun (r18 : Int × Bool × Unit) =>
      .st a1 [.int .i64 r18.1, .bool r18.2.1] <|
      .jmp 0 [.int .i64 (IntKind.i64.wrap (r7.1 + (1 : Int)))]) <|
    .ret (.bool false)
theorem aqueductref13_Need.eq (x0 : Int × Bool × Int × PUnit) (x1 : Int × Bool × PUnit) (x2 : Int × Bool × PUnit) (x3 : Int) : trOf Tryz.prog CC (.seq .o (.seq .o (.seq .o (.seq .o (.seq (.seq .o (.seq (.loop [11] [.sc (.int .i64)] .o) .o)) .o))))) Tryz.f47 [.agg #[.int .i64 x0.fst, .bool x0.snd.fst, .int .i64 x0.snd.snd.fst], .agg #[.int .i64 x1.fst, .bool x1.snd.fst], .agg #[.int .i64 x2.fst, .bool x2.snd.fst], .int .i64 x3] = aqueductref13_Need.T x0 x1 x2 x3 := by kernel_rfl
theorem aqueductref13_Need.calls (x0 : Int × Bool × Int × PUnit) (x1 : Int × Bool × PUnit) (x2 : Int × Bool × PUnit) (x3 : Int) {R : Ending → World → Prop} {w : World} (h : (aqueductref13_Need.T x0 x1 x2 x3).wp Tryz.prog R Conts.none w) : Calls Tryz.prog 47 #[.agg #[.int .i64 x0.fst, .bool x0.snd.fst, .int .i64 x0.snd.snd.fst], .agg #[.int .i64 x1.fst, .bool x1.snd.fst], .agg #[.int .i64 x2.fst, .bool x2.snd.fst], .int .i64 x3] w R :=
  calls_of_tr (args := [.agg #[.int .i64 x0.fst, .bool x0.snd.fst, .int .i64 x0.snd.snd.fst], .agg #[.int .i64 x1.fst, .bool x1.snd.fst], .agg #[.int .i64 x2.fst, .bool x2.snd.fst], .int .i64 x3]) hCC hMO Tryz.func47 ((aqueductref13_Need.eq x0 x1 x2 x3).symm ▸ h)

/-- aqueduct/spot.Build -/
def spot_Build.T (x0 : Int × Bool × Int × PUnit) : Tr :=
  .new 34 [.int .i64 x0.1, .bool x0.2.1, .int .i64 x0.2.2.1] fun (a0 : Addr) =>
  .ld (a0.add 0) .I fun (i1 : Int) =>
  .cond (decide (i1 < (0 : Int))) (
    .ret (.tuple #[.string (ByteArray.mk #[]), .int .i64 1])) <|
  .ld (a0.add 0) .I fun (i2 : Int) =>
  .cond (decide ((32768 : Int) ≤ i2)) (
    .ret (.tuple #[.string (ByteArray.mk #[]), .int .i64 1])) <|
  .ld (a0.add 2) .I fun (i3 : Int) =>
  .cond (decide (i3 < (0 : Int))) (
    .ret (.tuple #[.string (ByteArray.mk #[]), .int .i64 1])) <|
  .ld (a0.add 0) .I fun (i4 : Int) =>
  .bind 0 [.I] (
    .ld (a0.add 1) .B fun (b5 : Bool) =>
    .cond b5 (
      .jmp 0 [.int .i64 (bor IntKind.i64 i4 (32768 : Int))]) <|
    .jmp 0 [.int .i64 i4]) fun (r6 : Int × Unit) =>
  .call 54 #[.int .u64 (IntKind.u64.wrap r6.1), .int .i64 2, .bool false] (.tup [.S, .I]) fun (r7 : ByteArray × Int × Unit) =>
  .ld (a0.add 2) .I fun (i8 : Int) =>
  .call 54 #[.int .u64 (IntKind.u64.wrap i8), .int .i64 2, .bool false] (.tup [.S, .I]) fun (r9 : ByteArray × Int × Unit) =>
  .cond (!decide (r9.2.1 = (0 : Int))) (
    .ret (.tuple #[.string (ByteArray.mk #[]), .int .i64 1])) <|
  .need (ByteArray.size r7.1 + ByteArray.size r9.1 ≤ 9223372036854775807) <|
  .ret (.tuple #[.string (r7.1 ++ r9.1), .int .i64 0])
theorem spot_Build.eq (x0 : Int × Bool × Int × PUnit) : trOf Tryz.prog CC (.seq .o (.seq .o (.seq .o (.join [4] [.sc (.int .i64)] .o .o)))) Tryz.f48 [.agg #[.int .i64 x0.fst, .bool x0.snd.fst, .int .i64 x0.snd.snd.fst]] = spot_Build.T x0 := by kernel_rfl
theorem spot_Build.calls (x0 : Int × Bool × Int × PUnit) {R : Ending → World → Prop} {w : World} (h : (spot_Build.T x0).wp Tryz.prog R Conts.none w) : Calls Tryz.prog 48 #[.agg #[.int .i64 x0.fst, .bool x0.snd.fst, .int .i64 x0.snd.snd.fst]] w R :=
  calls_of_tr (args := [.agg #[.int .i64 x0.fst, .bool x0.snd.fst, .int .i64 x0.snd.snd.fst]]) hCC hMO Tryz.func48 ((spot_Build.eq x0).symm ▸ h)

/-- aqueduct/aqueductref13.Build -/
def aqueductref13_Build.T (x0 : Int × Bool × Int × PUnit) : Tr :=
  .new 34 [.int .i64 x0.1, .bool x0.2.1, .int .i64 x0.2.2.1] fun (a0 : Addr) =>
  .ld (a0.add 0) .I fun (i1 : Int) =>
  .cond (decide (i1 < (0 : Int))) (
    .ret (.tuple #[.string (ByteArray.mk #[]), .int .i64 1])) <|
  .ld (a0.add 0) .I fun (i2 : Int) =>
  .cond (decide ((32767 : Int) < i2)) (
    .ret (.tuple #[.string (ByteArray.mk #[]), .int .i64 1])) <|
  .ld (a0.add 2) .I fun (i3 : Int) =>
  .cond (decide (i3 < (0 : Int))) (
    .ret (.tuple #[.string (ByteArray.mk #[]), .int .i64 1])) <|
  .ld (a0.add 2) .I fun (i4 : Int) =>
  .cond (decide ((65535 : Int) < i4)) (
    .ret (.tuple #[.string (ByteArray.mk #[]), .int .i64 1])) <|
  .ld (a0.add 0) .I fun (i5 : Int) =>
  .ld (a0.add 1) .B fun (b6 : Bool) =>
  .cond b6 (
    .need ((256 : Int) ≠ (0 : Int)) <|
    .need ((256 : Int) ≠ (0 : Int)) <|
    .ld (a0.add 2) .I fun (i7 : Int) =>
    .need ((256 : Int) ≠ (0 : Int)) <|
    .ld (a0.add 2) .I fun (i8 : Int) =>
    .need ((256 : Int) ≠ (0 : Int)) <|
    .new 5 [.int .u8 (IntKind.u8.wrap ((IntKind.i64.wrap (i5 + (32768 : Int))).tmod (256 : Int))), .int .u8 (IntKind.u8.wrap (IntKind.i64.wrap ((IntKind.i64.wrap (i5 + (32768 : Int))).tdiv (256 : Int)))), .int .u8 (IntKind.u8.wrap (i7.tmod (256 : Int))), .int .u8 (IntKind.u8.wrap (IntKind.i64.wrap (i8.tdiv (256 : Int))))] fun (a9 : Addr) =>
    .sem (Go.convert (65) (9) (.slice (some a9) (4) (4))) .S fun (s10 : ByteArray) =>
    .ret (.tuple #[.string s10, .int .i64 0])) <|
  .need ((256 : Int) ≠ (0 : Int)) <|
  .need ((256 : Int) ≠ (0 : Int)) <|
  .ld (a0.add 2) .I fun (i11 : Int) =>
  .need ((256 : Int) ≠ (0 : Int)) <|
  .ld (a0.add 2) .I fun (i12 : Int) =>
  .need ((256 : Int) ≠ (0 : Int)) <|
  .new 5 [.int .u8 (IntKind.u8.wrap (i5.tmod (256 : Int))), .int .u8 (IntKind.u8.wrap (IntKind.i64.wrap (i5.tdiv (256 : Int)))), .int .u8 (IntKind.u8.wrap (i11.tmod (256 : Int))), .int .u8 (IntKind.u8.wrap (IntKind.i64.wrap (i12.tdiv (256 : Int))))] fun (a13 : Addr) =>
  .sem (Go.convert (65) (9) (.slice (some a13) (4) (4))) .S fun (s14 : ByteArray) =>
  .ret (.tuple #[.string s14, .int .i64 0])
theorem aqueductref13_Build.eq (x0 : Int × Bool × Int × PUnit) : trOf Tryz.prog CC (.o) Tryz.f49 [.agg #[.int .i64 x0.fst, .bool x0.snd.fst, .int .i64 x0.snd.snd.fst]] = aqueductref13_Build.T x0 := by kernel_rfl
theorem aqueductref13_Build.calls (x0 : Int × Bool × Int × PUnit) {R : Ending → World → Prop} {w : World} (h : (aqueductref13_Build.T x0).wp Tryz.prog R Conts.none w) : Calls Tryz.prog 49 #[.agg #[.int .i64 x0.fst, .bool x0.snd.fst, .int .i64 x0.snd.snd.fst]] w R :=
  calls_of_tr (args := [.agg #[.int .i64 x0.fst, .bool x0.snd.fst, .int .i64 x0.snd.snd.fst]]) hCC hMO Tryz.func49 ((aqueductref13_Build.eq x0).symm ▸ h)

/-- slices.Clone[[]byte,byte] -/
def slices_Clone_bytebyte.T (x0 : Sl) : Tr :=
  .cond x0.a.isNone (
    .ret (.slice none (0) (0))) <|
  .new 5 [] fun (a0 : Addr) =>
  .sem (Go.Builtin.append_ #[65, 65] (65) #[.slice (some a0) (0) (0), .slice x0.a x0.n x0.c]) .L fun (l1 : Sl) =>
  .ret (.slice l1.a l1.n l1.c)
theorem slices_Clone_bytebyte.eq (x0 : Sl) : trOf Tryz.prog CC (.o) Tryz.f50 [.slice x0.a x0.n x0.c] = slices_Clone_bytebyte.T x0 := by kernel_rfl
theorem slices_Clone_bytebyte.calls (x0 : Sl) {R : Ending → World → Prop} {w : World} (h : (slices_Clone_bytebyte.T x0).wp Tryz.prog R Conts.none w) : Calls Tryz.prog 50 #[.slice x0.a x0.n x0.c] w R :=
  calls_of_tr (args := [.slice x0.a x0.n x0.c]) hCC hMO Tryz.func50 ((slices_Clone_bytebyte.eq x0).symm ▸ h)

/-- slices.Clone[[]aqueduct/api.Access,aqueduct/api.Access] -/
def slices_Clone_apiAccessapiAccess.T (x0 : Sl) : Tr :=
  .cond x0.a.isNone (
    .ret (.slice none (0) (0))) <|
  .new 103 [] fun (a0 : Addr) =>
  .sem (Go.Builtin.append_ #[71, 71] (71) #[.slice (some a0) (0) (0), .slice x0.a x0.n x0.c]) .L fun (l1 : Sl) =>
  .ret (.slice l1.a l1.n l1.c)
theorem slices_Clone_apiAccessapiAccess.eq (x0 : Sl) : trOf Tryz.prog CC (.o) Tryz.f51 [.slice x0.a x0.n x0.c] = slices_Clone_apiAccessapiAccess.T x0 := by kernel_rfl
theorem slices_Clone_apiAccessapiAccess.calls (x0 : Sl) {R : Ending → World → Prop} {w : World} (h : (slices_Clone_apiAccessapiAccess.T x0).wp Tryz.prog R Conts.none w) : Calls Tryz.prog 51 #[.slice x0.a x0.n x0.c] w R :=
  calls_of_tr (args := [.slice x0.a x0.n x0.c]) hCC hMO Tryz.func51 ((slices_Clone_apiAccessapiAccess.eq x0).symm ▸ h)

/-- aqueduct/gmem.sized -/
def gmem_sized.T (x0 : Int) : Tr :=
  .cond (decide (x0 = (1 : Int))) (
    .ret (.bool true)) <|
  .cond (decide (x0 = (2 : Int))) (
    .ret (.bool true)) <|
  .cond (decide (x0 = (4 : Int))) (
    .ret (.bool true)) <|
  .ret (.bool (decide (x0 = (8 : Int))))
theorem gmem_sized.eq (x0 : Int) : trOf Tryz.prog CC (.o) Tryz.f53 [.int .i64 x0] = gmem_sized.T x0 := by kernel_rfl
theorem gmem_sized.calls (x0 : Int) {R : Ending → World → Prop} {w : World} (h : (gmem_sized.T x0).wp Tryz.prog R Conts.none w) : Calls Tryz.prog 53 #[.int .i64 x0] w R :=
  calls_of_tr (args := [.int .i64 x0]) hCC hMO Tryz.func53 ((gmem_sized.eq x0).symm ▸ h)

/-- aqueduct/words.Put -/
def words_Put.T (x0 : Int) (x1 : Int) (x2 : Bool) : Tr :=
  .call 74 #[.int .u64 x0, .int .i64 x1] .B fun (b0 : Bool) =>
  .cond (!b0) (
    .ret (.tuple #[.string (ByteArray.mk #[]), .int .i64 1])) <|
  .sem (Go.Instr.makeSlice (65) (.int .i64 x1) (.int .i64 x1)) .L fun (l1 : Sl) =>
  .loop 0 [.I] (((0 : Int), ())) fun (r2 : Int × Unit) =>
    .cond (decide (r2.1 < x1)) (
      .need ((0 : Int) ≤ IntKind.i64.wrap ((8 : Int) * r2.1)) <|
      .need ((0 : Int) ≤ IntKind.i64.wrap (IntKind.i64.wrap (x1 - (1 : Int)) - r2.1) ∧ IntKind.i64.wrap (IntKind.i64.wrap (x1 - (1 : Int)) - r2.1) < (↑l1.n : Int)) <|
      .nil l1.a fun (a3 : Addr) =>
      .st (a3.add ((IntKind.i64.wrap (IntKind.i64.wrap (x1 - (1 : Int)) - r2.1)).toNat * 1)) [.int .u8 (IntKind.u8.wrap (bshr IntKind.u64 x0 (IntKind.i64.wrap ((8 : Int) * r2.1))))] <|
      .jmp 0 [.int .i64 (IntKind.i64.wrap (r2.1 + (1 : Int)))]) <|
    .cond (!x2) (
      .sem (Go.convert (65) (9) (.slice l1.a l1.n l1.c)) .S fun (s4 : ByteArray) =>
      .call 75 #[.string s4] .S fun (s5 : ByteArray) =>
      .ret (.tuple #[.string s5, .int .i64 0])) <|
    .sem (Go.convert (65) (9) (.slice l1.a l1.n l1.c)) .S fun (s6 : ByteArray) =>
    .ret (.tuple #[.string s6, .int .i64 0])
theorem words_Put.eq (x0 : Int) (x1 : Int) (x2 : Bool) : trOf Tryz.prog CC (.seq .o (.seq .o (.seq .o (.seq (.seq .o (.seq (.loop [17] [.sc (.int .i64)] .o) .o)) .o)))) Tryz.f54 [.int .u64 x0, .int .i64 x1, .bool x2] = words_Put.T x0 x1 x2 := by kernel_rfl
theorem words_Put.calls (x0 : Int) (x1 : Int) (x2 : Bool) {R : Ending → World → Prop} {w : World} (h : (words_Put.T x0 x1 x2).wp Tryz.prog R Conts.none w) : Calls Tryz.prog 54 #[.int .u64 x0, .int .i64 x1, .bool x2] w R :=
  calls_of_tr (args := [.int .u64 x0, .int .i64 x1, .bool x2]) hCC hMO Tryz.func54 ((words_Put.eq x0 x1 x2).symm ▸ h)

/-- (*aqueduct/drvq.Queue).Free -/
def drvq_Queue_Free.T (x0 : Addr) : Tr :=
  .ld (x0.add 12) .I fun (i0 : Int) =>
  .ret (.int .i64 i0)
theorem drvq_Queue_Free.eq (x0 : Addr) : trOf Tryz.prog CC (.o) Tryz.f55 [.pointer (some x0)] = drvq_Queue_Free.T x0 := by kernel_rfl
theorem drvq_Queue_Free.calls (x0 : Addr) {R : Ending → World → Prop} {w : World} (h : (drvq_Queue_Free.T x0).wp Tryz.prog R Conts.none w) : Calls Tryz.prog 55 #[.pointer (some x0)] w R :=
  calls_of_tr (args := [.pointer (some x0)]) hCC hMO Tryz.func55 ((drvq_Queue_Free.eq x0).symm ▸ h)

/-- aqueduct/aqueductref11.Same -/
def aqueductref11_Same.T (x0 : Sl) (x1 : Sl) : Tr :=
  .cond (!decide ((↑x0.n : Int) = (↑x1.n : Int))) (
    .ret (.bool false)) <|
  .loop 0 [.I] (((0 : Int), ())) fun (r0 : Int × Unit) =>
    .cond (decide (r0.1 < (↑x0.n : Int))) (
      .tick <|
      .need ((0 : Int) ≤ r0.1 ∧ r0.1 < (↑x0.n : Int)) <|
      .nil x0.a fun (a1 : Addr) =>
      .ld (a1.add (Int.toNat r0.1 * 1)) .I fun (i2 : Int) =>
      .need ((0 : Int) ≤ r0.1 ∧ r0.1 < (↑x1.n : Int)) <|
      .nil x1.a fun (a3 : Addr) =>
      .ld (a3.add (Int.toNat r0.1 * 1)) .I fun (i4 : Int) =>
      .cond (!decide (i2 = i4)) (
        .ret (.bool false)) <|
      .jmp 0 [.int .i64 (IntKind.i64.wrap (r0.1 + (1 : Int)))]) <|
    .ret (.bool true)
theorem aqueductref11_Same.eq (x0 : Sl) (x1 : Sl) : trOf Tryz.prog CC (.seq .o (.seq .o (.seq (.seq .o (.seq (.loop [5] [.sc (.int .i64)] .o) .o)) .o))) Tryz.f56 [.slice x0.a x0.n x0.c, .slice x1.a x1.n x1.c] = aqueductref11_Same.T x0 x1 := by kernel_rfl
theorem aqueductref11_Same.calls (x0 : Sl) (x1 : Sl) {R : Ending → World → Prop} {w : World} (h : (aqueductref11_Same.T x0 x1).wp Tryz.prog R Conts.none w) : Calls Tryz.prog 56 #[.slice x0.a x0.n x0.c, .slice x1.a x1.n x1.c] w R :=
  calls_of_tr (args := [.slice x0.a x0.n x0.c, .slice x1.a x1.n x1.c]) hCC hMO Tryz.func56 ((aqueductref11_Same.eq x0 x1).symm ▸ h)

/-- (*aqueduct/drvq.Queue).Held -/
def drvq_Queue_Held.T (x0 : Addr) : Tr :=
  .ld (x0.add 13) .M fun (p0 : Option Nat) =>
  .call 77 #[.map p0] .V fun (v1 : Value) =>
  .call 76 #[v1] .L fun (l2 : Sl) =>
  .ret (.slice l2.a l2.n l2.c)
theorem drvq_Queue_Held.eq (x0 : Addr) : trOf Tryz.prog CC (.o) Tryz.f57 [.pointer (some x0)] = drvq_Queue_Held.T x0 := by kernel_rfl
theorem drvq_Queue_Held.calls (x0 : Addr) {R : Ending → World → Prop} {w : World} (h : (drvq_Queue_Held.T x0).wp Tryz.prog R Conts.none w) : Calls Tryz.prog 57 #[.pointer (some x0)] w R :=
  calls_of_tr (args := [.pointer (some x0)]) hCC hMO Tryz.func57 ((drvq_Queue_Held.eq x0).symm ▸ h)

/-- (*aqueduct/aqueductref15.Queue).Held -/
def aqueductref15_Queue_Held.T (x0 : Addr) : Tr :=
  .new 3 [] fun (a0 : Addr) =>
  .loop 0 [.L, .I] ((Sl.mk (some a0) 0 0, (0 : Int), ())) fun (r1 : Sl × Int × Unit) =>
    .ld (x0.add 12) .L fun (l2 : Sl) =>
    .cond (decide (r1.2.1 < (↑l2.n : Int))) (
      .ld (x0.add 12) .L fun (l3 : Sl) =>
      .need ((0 : Int) ≤ r1.2.1 ∧ r1.2.1 < (↑l3.n : Int)) <|
      .nil l3.a fun (a4 : Addr) =>
      .ld (a4.add (Int.toNat r1.2.1 * 1)) .I fun (i5 : Int) =>
      .cond (decide ((0 : Int) < i5)) (
        .new 3 [.int .i64 r1.2.1] fun (a6 : Addr) =>
        .sem (Go.Builtin.append_ #[46, 46] (46) #[.slice r1.1.a r1.1.n r1.1.c, .slice (some a6) (1) (1)]) .L fun (l7 : Sl) =>
        .jmp 0 [.slice l7.a l7.n l7.c, .int .i64 (IntKind.i64.wrap (r1.2.1 + (1 : Int)))]) <|
      .jmp 0 [.slice r1.1.a r1.1.n r1.1.c, .int .i64 (IntKind.i64.wrap (r1.2.1 + (1 : Int)))]) <|
    .ret (.slice r1.1.a r1.1.n r1.1.c)
theorem aqueductref15_Queue_Held.eq (x0 : Addr) : trOf Tryz.prog CC (.seq .o (.seq .o (.seq (.seq .o (.seq (.loop [3, 4] [.sc .slc, .sc (.int .i64)] .o) .o)) .o))) Tryz.f58 [.pointer (some x0)] = aqueductref15_Queue_Held.T x0 := by kernel_rfl
theorem aqueductref15_Queue_Held.calls (x0 : Addr) {R : Ending → World → Prop} {w : World} (h : (aqueductref15_Queue_Held.T x0).wp Tryz.prog R Conts.none w) : Calls Tryz.prog 58 #[.pointer (some x0)] w R :=
  calls_of_tr (args := [.pointer (some x0)]) hCC hMO Tryz.func58 ((aqueductref15_Queue_Held.eq x0).symm ▸ h)

/-- (*aqueduct/drvq.Queue).Back -/
def drvq_Queue_Back.T (x0 : Addr) : Tr :=
  .new 44 [.int .i64 0, .bool false] fun (a0 : Addr) =>
  .ld (x0.add 7) (.agg [.I, .bool]) fun (r1 : Int × Bool × Unit) =>
  .st a0 [.int .i64 r1.1, .bool r1.2.1] <|
  .ld a0 (.agg [.I, .bool]) fun (r2 : Int × Bool × Unit) =>
  .ret (.agg #[.int .i64 r2.1, .bool r2.2.1])
theorem drvq_Queue_Back.eq (x0 : Addr) : trOf Tryz.prog CC (.o) Tryz.f59 [.pointer (some x0)] = drvq_Queue_Back.T x0 := by kernel_rfl
theorem drvq_Queue_Back.calls (x0 : Addr) {R : Ending → World → Prop} {w : World} (h : (drvq_Queue_Back.T x0).wp Tryz.prog R Conts.none w) : Calls Tryz.prog 59 #[.pointer (some x0)] w R :=
  calls_of_tr (args := [.pointer (some x0)]) hCC hMO Tryz.func59 ((drvq_Queue_Back.eq x0).symm ▸ h)

/-- aqueduct/devq.Check -/
def devq_Check.T (x0 : Addr) (x1 : Int × Int × Int × Int × PUnit) : Tr :=
  .new 23 [.int .i64 x1.1, .int .i64 x1.2.1, .int .i64 x1.2.2.1, .int .i64 x1.2.2.2.1] fun (a0 : Addr) =>
  .ld (a0.add 1) .I fun (i1 : Int) =>
  .cond (decide (i1 < (1 : Int))) (
    .ret (.int .i64 140)) <|
  .ld (a0.add 1) .I fun (i2 : Int) =>
  .cond (decide ((32768 : Int) < i2)) (
    .ret (.int .i64 140)) <|
  .ld (a0.add 0) .I fun (i3 : Int) =>
  .need ((16 : Int) ≠ (0 : Int)) <|
  .cond (!decide (i3.tmod (16 : Int) = (0 : Int))) (
    .ret (.int .i64 140)) <|
  .ld (a0.add 2) .I fun (i4 : Int) =>
  .need ((4 : Int) ≠ (0 : Int)) <|
  .cond (!decide (i4.tmod (4 : Int) = (0 : Int))) (
    .ret (.int .i64 140)) <|
  .ld (a0.add 3) .I fun (i5 : Int) =>
  .need ((4 : Int) ≠ (0 : Int)) <|
  .cond (!decide (i5.tmod (4 : Int) = (0 : Int))) (
    .ret (.int .i64 140)) <|
  .ld (a0.add 0) .I fun (i6 : Int) =>
  .ld (a0.add 1) .I fun (i7 : Int) =>
  .call 41 #[.pointer (some x0), .int .i64 i6, .int .i64 (IntKind.i64.wrap ((16 : Int) * i7))] .B fun (b8 : Bool) =>
  .cond (!b8) (
    .ret (.int .i64 140)) <|
  .ld (a0.add 2) .I fun (i9 : Int) =>
  .call 41 #[.pointer (some x0), .int .i64 i9, .int .i64 4] .B fun (b10 : Bool) =>
  .cond (!b10) (
    .ret (.int .i64 140)) <|
  .ld (a0.add 3) .I fun (i11 : Int) =>
  .call 41 #[.pointer (some x0), .int .i64 i11, .int .i64 4] .B fun (b12 : Bool) =>
  .cond (!b12) (
    .ret (.int .i64 140)) <|
  .ret (.int .i64 0)
theorem devq_Check.eq (x0 : Addr) (x1 : Int × Int × Int × Int × PUnit) : trOf Tryz.prog CC (.o) Tryz.f60 [.pointer (some x0), .agg #[.int .i64 x1.fst, .int .i64 x1.snd.fst, .int .i64 x1.snd.snd.fst, .int .i64 x1.snd.snd.snd.fst]] = devq_Check.T x0 x1 := by kernel_rfl
theorem devq_Check.calls (x0 : Addr) (x1 : Int × Int × Int × Int × PUnit) {R : Ending → World → Prop} {w : World} (h : (devq_Check.T x0 x1).wp Tryz.prog R Conts.none w) : Calls Tryz.prog 60 #[.pointer (some x0), .agg #[.int .i64 x1.fst, .int .i64 x1.snd.fst, .int .i64 x1.snd.snd.fst, .int .i64 x1.snd.snd.snd.fst]] w R :=
  calls_of_tr (args := [.pointer (some x0), .agg #[.int .i64 x1.fst, .int .i64 x1.snd.fst, .int .i64 x1.snd.snd.fst, .int .i64 x1.snd.snd.snd.fst]]) hCC hMO Tryz.func60 ((devq_Check.eq x0 x1).symm ▸ h)

/-- aqueduct/aqueductref14.Check -/
def aqueductref14_Check.T (x0 : Addr) (x1 : Int × Int × Int × Int × PUnit) : Tr :=
  .new 23 [.int .i64 x1.1, .int .i64 x1.2.1, .int .i64 x1.2.2.1, .int .i64 x1.2.2.2.1] fun (a0 : Addr) =>
  .ld (a0.add 1) .I fun (i1 : Int) =>
  .cond (decide (i1 < (1 : Int))) (
    .ret (.int .i64 140)) <|
  .ld (a0.add 1) .I fun (i2 : Int) =>
  .cond (decide ((32768 : Int) < i2)) (
    .ret (.int .i64 140)) <|
  .ld (a0.add 0) .I fun (i3 : Int) =>
  .need ((16 : Int) ≠ (0 : Int)) <|
  .cond (!decide (i3.tmod (16 : Int) = (0 : Int))) (
    .ret (.int .i64 140)) <|
  .ld (a0.add 2) .I fun (i4 : Int) =>
  .need ((4 : Int) ≠ (0 : Int)) <|
  .cond (!decide (i4.tmod (4 : Int) = (0 : Int))) (
    .ret (.int .i64 140)) <|
  .ld (a0.add 3) .I fun (i5 : Int) =>
  .need ((4 : Int) ≠ (0 : Int)) <|
  .cond (!decide (i5.tmod (4 : Int) = (0 : Int))) (
    .ret (.int .i64 140)) <|
  .ld (a0.add 0) .I fun (i6 : Int) =>
  .ld (a0.add 1) .I fun (i7 : Int) =>
  .call 31 #[.pointer (some x0), .int .i64 i6, .int .i64 (IntKind.i64.wrap ((16 : Int) * i7))] .B fun (b8 : Bool) =>
  .cond (!b8) (
    .ret (.int .i64 140)) <|
  .ld (a0.add 2) .I fun (i9 : Int) =>
  .call 31 #[.pointer (some x0), .int .i64 i9, .int .i64 4] .B fun (b10 : Bool) =>
  .cond (!b10) (
    .ret (.int .i64 140)) <|
  .ld (a0.add 3) .I fun (i11 : Int) =>
  .call 31 #[.pointer (some x0), .int .i64 i11, .int .i64 4] .B fun (b12 : Bool) =>
  .cond (!b12) (
    .ret (.int .i64 140)) <|
  .ret (.int .i64 0)
theorem aqueductref14_Check.eq (x0 : Addr) (x1 : Int × Int × Int × Int × PUnit) : trOf Tryz.prog CC (.o) Tryz.f62 [.pointer (some x0), .agg #[.int .i64 x1.fst, .int .i64 x1.snd.fst, .int .i64 x1.snd.snd.fst, .int .i64 x1.snd.snd.snd.fst]] = aqueductref14_Check.T x0 x1 := by kernel_rfl
theorem aqueductref14_Check.calls (x0 : Addr) (x1 : Int × Int × Int × Int × PUnit) {R : Ending → World → Prop} {w : World} (h : (aqueductref14_Check.T x0 x1).wp Tryz.prog R Conts.none w) : Calls Tryz.prog 62 #[.pointer (some x0), .agg #[.int .i64 x1.fst, .int .i64 x1.snd.fst, .int .i64 x1.snd.snd.fst, .int .i64 x1.snd.snd.snd.fst]] w R :=
  calls_of_tr (args := [.pointer (some x0), .agg #[.int .i64 x1.fst, .int .i64 x1.snd.fst, .int .i64 x1.snd.snd.fst, .int .i64 x1.snd.snd.snd.fst]]) hCC hMO Tryz.func62 ((aqueductref14_Check.eq x0 x1).symm ▸ h)

/-- aqueduct/spot.Check -/
def spot_Check.T (x0 : Int × Bool × PUnit) (x1 : Int) : Tr :=
  .new 44 [.int .i64 x0.1, .bool x0.2.1] fun (a0 : Addr) =>
  .cond (decide (x1 < (1 : Int))) (
    .ret (.int .i64 130)) <|
  .cond (decide ((32768 : Int) < x1)) (
    .ret (.int .i64 130)) <|
  .ld (a0.add 0) .I fun (i1 : Int) =>
  .cond (decide (i1 < (0 : Int))) (
    .ret (.int .i64 1)) <|
  .ld (a0.add 0) .I fun (i2 : Int) =>
  .cond (decide (x1 ≤ i2)) (
    .ret (.int .i64 1)) <|
  .ret (.int .i64 0)
theorem spot_Check.eq (x0 : Int × Bool × PUnit) (x1 : Int) : trOf Tryz.prog CC (.o) Tryz.f63 [.agg #[.int .i64 x0.fst, .bool x0.snd.fst], .int .i64 x1] = spot_Check.T x0 x1 := by kernel_rfl
theorem spot_Check.calls (x0 : Int × Bool × PUnit) (x1 : Int) {R : Ending → World → Prop} {w : World} (h : (spot_Check.T x0 x1).wp Tryz.prog R Conts.none w) : Calls Tryz.prog 63 #[.agg #[.int .i64 x0.fst, .bool x0.snd.fst], .int .i64 x1] w R :=
  calls_of_tr (args := [.agg #[.int .i64 x0.fst, .bool x0.snd.fst], .int .i64 x1]) hCC hMO Tryz.func63 ((spot_Check.eq x0 x1).symm ▸ h)

/-- aqueduct/aqueductref13.Check -/
def aqueductref13_Check.T (x0 : Int × Bool × PUnit) (x1 : Int) : Tr :=
  .new 44 [.int .i64 x0.1, .bool x0.2.1] fun (a0 : Addr) =>
  .cond (decide (x1 < (1 : Int))) (
    .ret (.int .i64 130)) <|
  .cond (decide ((32768 : Int) < x1)) (
    .ret (.int .i64 130)) <|
  .ld (a0.add 0) .I fun (i1 : Int) =>
  .cond (decide (i1 < (0 : Int))) (
    .ret (.int .i64 1)) <|
  .ld (a0.add 0) .I fun (i2 : Int) =>
  .cond (decide (IntKind.i64.wrap (x1 - (1 : Int)) < i2)) (
    .ret (.int .i64 1)) <|
  .ret (.int .i64 0)
theorem aqueductref13_Check.eq (x0 : Int × Bool × PUnit) (x1 : Int) : trOf Tryz.prog CC (.o) Tryz.f64 [.agg #[.int .i64 x0.fst, .bool x0.snd.fst], .int .i64 x1] = aqueductref13_Check.T x0 x1 := by kernel_rfl
theorem aqueductref13_Check.calls (x0 : Int × Bool × PUnit) (x1 : Int) {R : Ending → World → Prop} {w : World} (h : (aqueductref13_Check.T x0 x1).wp Tryz.prog R Conts.none w) : Calls Tryz.prog 64 #[.agg #[.int .i64 x0.fst, .bool x0.snd.fst], .int .i64 x1] w R :=
  calls_of_tr (args := [.agg #[.int .i64 x0.fst, .bool x0.snd.fst], .int .i64 x1]) hCC hMO Tryz.func64 ((aqueductref13_Check.eq x0 x1).symm ▸ h)

/-- aqueduct/aqueductref13.one -/
def aqueductref13_one.T (x0 : Int × Bool × PUnit) (x1 : Int) : Tr :=
  .new 44 [.int .i64 x0.1, .bool x0.2.1] fun (a0 : Addr) =>
  .new 44 [.int .i64 0, .bool false] fun (a1 : Addr) =>
  .ld (a0.add 0) .I fun (i2 : Int) =>
  .cond (decide (i2 = IntKind.i64.wrap (x1 - (1 : Int)))) (
    .ld (a0.add 1) .B fun (b3 : Bool) =>
    .st a1 [.int .i64 0, .bool (!b3)] <|
    .ld a1 (.agg [.I, .bool]) fun (r4 : Int × Bool × Unit) =>
    .ret (.agg #[.int .i64 r4.1, .bool r4.2.1])) <|
  .ld (a0.add 0) .I fun (i5 : Int) =>
  .ld (a0.add 1) .B fun (b6 : Bool) =>
  .st a1 [.int .i64 (IntKind.i64.wrap (i5 + (1 : Int))), .bool b6] <|
  .ld a1 (.agg [.I, .bool]) fun (r7 : Int × Bool × Unit) =>
  .ret (.agg #[.int .i64 r7.1, .bool r7.2.1])
theorem aqueductref13_one.eq (x0 : Int × Bool × PUnit) (x1 : Int) : trOf Tryz.prog CC (.o) Tryz.f65 [.agg #[.int .i64 x0.fst, .bool x0.snd.fst], .int .i64 x1] = aqueductref13_one.T x0 x1 := by kernel_rfl
theorem aqueductref13_one.calls (x0 : Int × Bool × PUnit) (x1 : Int) {R : Ending → World → Prop} {w : World} (h : (aqueductref13_one.T x0 x1).wp Tryz.prog R Conts.none w) : Calls Tryz.prog 65 #[.agg #[.int .i64 x0.fst, .bool x0.snd.fst], .int .i64 x1] w R :=
  calls_of_tr (args := [.agg #[.int .i64 x0.fst, .bool x0.snd.fst], .int .i64 x1]) hCC hMO Tryz.func65 ((aqueductref13_one.eq x0 x1).symm ▸ h)

/-- aqueduct/aqueductref01.Put -/
def aqueductref01_Put.T (x0 : Int) (x1 : Int) (x2 : Bool) : Tr :=
  .cond (decide (x1 < (1 : Int))) (
    .ret (.tuple #[.string (ByteArray.mk #[]), .int .i64 1])) <|
  .cond (decide ((8 : Int) < x1)) (
    .ret (.tuple #[.string (ByteArray.mk #[]), .int .i64 1])) <|
  .loop 0 [.U64, .S, .S, .I] ((x0, ByteArray.mk #[], ByteArray.mk #[], (0 : Int), ())) fun (r0 : Int × ByteArray × ByteArray × Int × Unit) =>
    .cond (decide (r0.2.2.2.1 < x1)) (
      .need ((256 : Int) ≠ (0 : Int)) <|
      .new 5 [.int .u8 (IntKind.u8.wrap (Int.tmod r0.1 (256 : Int)))] fun (a1 : Addr) =>
      .sem (Go.convert (65) (9) (.slice (some a1) (1) (1))) .S fun (s2 : ByteArray) =>
      .need (ByteArray.size r0.2.1 + s2.size ≤ 9223372036854775807) <|
      .need (s2.size + ByteArray.size r0.2.2.1 ≤ 9223372036854775807) <|
      .need ((256 : Int) ≠ (0 : Int)) <|
      .jmp 0 [.int .u64 (IntKind.u64.wrap (Int.tdiv r0.1 (256 : Int))), .string (r0.2.1 ++ s2), .string (s2 ++ r0.2.2.1), .int .i64 (IntKind.i64.wrap (r0.2.2.2.1 + (1 : Int)))]) <|
    .cond (decide ((0 : Int) < r0.1)) (
      .ret (.tuple #[.string (ByteArray.mk #[]), .int .i64 1])) <|
    .cond x2 (
      .ret (.tuple #[.string r0.2.2.1, .int .i64 0])) <|
    .ret (.tuple #[.string r0.2.1, .int .i64 0])
theorem aqueductref01_Put.eq (x0 : Int) (x1 : Int) (x2 : Bool) : trOf Tryz.prog CC (.seq .o (.seq .o (.seq .o (.seq (.seq .o (.seq (.loop [0, 8, 9, 10] [.sc (.int .u64), .sc .str, .sc .str, .sc (.int .i64)] .o) .o)) .o)))) Tryz.f66 [.int .u64 x0, .int .i64 x1, .bool x2] = aqueductref01_Put.T x0 x1 x2 := by kernel_rfl
theorem aqueductref01_Put.calls (x0 : Int) (x1 : Int) (x2 : Bool) {R : Ending → World → Prop} {w : World} (h : (aqueductref01_Put.T x0 x1 x2).wp Tryz.prog R Conts.none w) : Calls Tryz.prog 66 #[.int .u64 x0, .int .i64 x1, .bool x2] w R :=
  calls_of_tr (args := [.int .u64 x0, .int .i64 x1, .bool x2]) hCC hMO Tryz.func66 ((aqueductref01_Put.eq x0 x1 x2).symm ▸ h)

/-- aqueduct/desc.Parse$1 -/
def desc_Parse_1.T (x0 : Int) (x1 : Int) (x2 : Addr) : Tr :=
  .ld x2 .S fun (s0 : ByteArray) =>
  .call 68 #[.string s0, .int .i64 x0, .int .i64 x1, .bool false] (.tup [.U64, .I]) fun (r1 : Int × Int × Unit) =>
  .ret (.int .u64 r1.1)
theorem desc_Parse_1.eq (x0 : Int) (x1 : Int) (x2 : Addr) : trOf Tryz.prog CC (.o) Tryz.f67 [.int .i64 x0, .int .i64 x1, .pointer (some x2)] = desc_Parse_1.T x0 x1 x2 := by kernel_rfl
theorem desc_Parse_1.calls (x0 : Int) (x1 : Int) (x2 : Addr) {R : Ending → World → Prop} {w : World} (h : (desc_Parse_1.T x0 x1 x2).wp Tryz.prog R Conts.none w) : Calls Tryz.prog 67 #[.int .i64 x0, .int .i64 x1, .pointer (some x2)] w R :=
  calls_of_tr (args := [.int .i64 x0, .int .i64 x1, .pointer (some x2)]) hCC hMO Tryz.func67 ((desc_Parse_1.eq x0 x1 x2).symm ▸ h)

/-- aqueduct/words.Get -/
def words_Get.T (x0 : ByteArray) (x1 : Int) (x2 : Int) (x3 : Bool) : Tr :=
  .cond (decide (x2 < (1 : Int))) (
    .ret (.tuple #[.int .u64 0, .int .i64 1])) <|
  .cond (decide ((8 : Int) < x2)) (
    .ret (.tuple #[.int .u64 0, .int .i64 1])) <|
  .cond (decide (x1 < (0 : Int))) (
    .ret (.tuple #[.int .u64 0, .int .i64 10])) <|
  .cond (decide (IntKind.i64.wrap ((↑x0.size : Int) - x2) < x1)) (
    .ret (.tuple #[.int .u64 0, .int .i64 10])) <|
  .need ((0 : Int) ≤ IntKind.i64.wrap (x1 + x2) ∧ IntKind.i64.wrap (x1 + x2) ≤ (↑x0.size : Int) ∧ (0 : Int) ≤ x1 ∧ x1 ≤ IntKind.i64.wrap (x1 + x2)) <|
  .bind 0 [.S] (
    .cond (!x3) (
      .call 75 #[.string (x0.extract x1.toNat (IntKind.i64.wrap (x1 + x2)).toNat)] .S fun (s0 : ByteArray) =>
      .jmp 0 [.string s0]) <|
    .jmp 0 [.string (x0.extract x1.toNat (IntKind.i64.wrap (x1 + x2)).toNat)]) fun (r1 : ByteArray × Unit) =>
  .loop 0 [.U64, .I] (((0 : Int), (0 : Int), ())) fun (r2 : Int × Int × Unit) =>
    .cond (decide (r2.2.1 < x2)) (
      .need ((0 : Int) ≤ (8 : Int)) <|
      .need ((0 : Int) ≤ r2.2.1 ∧ r2.2.1 < (↑(ByteArray.size r1.1) : Int)) <|
      .jmp 0 [.int .u64 (bor IntKind.u64 (bshl IntKind.u64 r2.1 (8 : Int)) (IntKind.u64.wrap (bt r1.1 r2.2.1))), .int .i64 (IntKind.i64.wrap (r2.2.1 + (1 : Int)))]) <|
    .ret (.tuple #[.int .u64 r2.1, .int .i64 0])
theorem words_Get.eq (x0 : ByteArray) (x1 : Int) (x2 : Int) (x3 : Bool) : trOf Tryz.prog CC (.seq .o (.seq .o (.seq .o (.join [0] [.sc .str] .o (.seq .o (.seq (.seq .o (.seq (.loop [10, 41] [.sc (.int .u64), .sc (.int .i64)] .o) .o)) .o)))))) Tryz.f68 [.string x0, .int .i64 x1, .int .i64 x2, .bool x3] = words_Get.T x0 x1 x2 x3 := by kernel_rfl
theorem words_Get.calls (x0 : ByteArray) (x1 : Int) (x2 : Int) (x3 : Bool) {R : Ending → World → Prop} {w : World} (h : (words_Get.T x0 x1 x2 x3).wp Tryz.prog R Conts.none w) : Calls Tryz.prog 68 #[.string x0, .int .i64 x1, .int .i64 x2, .bool x3] w R :=
  calls_of_tr (args := [.string x0, .int .i64 x1, .int .i64 x2, .bool x3]) hCC hMO Tryz.func68 ((words_Get.eq x0 x1 x2 x3).symm ▸ h)

/-- aqueduct/desc.says -/
def desc_says.T (x0 : Int) (x1 : Bool) : Tr :=
  .cond ((!decide (band IntKind.i64 x0 (128 : Int) = (0 : Int))) == !decide (band IntKind.i64 x0 (32768 : Int) = (0 : Int))) (
    .cond ((!decide (band IntKind.i64 x0 (128 : Int) = (0 : Int))) == x1) (
      .ret (.int .i64 2)) <|
    .cond (!(!decide (band IntKind.i64 x0 (128 : Int) = (0 : Int))) == !decide (band IntKind.i64 x0 (32768 : Int) = (0 : Int))) (
      .cond ((!decide (band IntKind.i64 x0 (128 : Int) = (0 : Int))) == x1) (
        .ret (.int .i64 1)) <|
      .ret (.int .i64 0)) <|
    .ret (.int .i64 0)) <|
  .cond (!(!decide (band IntKind.i64 x0 (128 : Int) = (0 : Int))) == !decide (band IntKind.i64 x0 (32768 : Int) = (0 : Int))) (
    .cond ((!decide (band IntKind.i64 x0 (128 : Int) = (0 : Int))) == x1) (
      .ret (.int .i64 1)) <|
    .ret (.int .i64 0)) <|
  .ret (.int .i64 0)
theorem desc_says.eq (x0 : Int) (x1 : Bool) : trOf Tryz.prog CC (.o) Tryz.f69 [.int .i64 x0, .bool x1] = desc_says.T x0 x1 := by kernel_rfl
theorem desc_says.calls (x0 : Int) (x1 : Bool) {R : Ending → World → Prop} {w : World} (h : (desc_says.T x0 x1).wp Tryz.prog R Conts.none w) : Calls Tryz.prog 69 #[.int .i64 x0, .bool x1] w R :=
  calls_of_tr (args := [.int .i64 x0, .bool x1]) hCC hMO Tryz.func69 ((desc_says.eq x0 x1).symm ▸ h)

/-- aqueduct/aqueductref01.Get -/
def aqueductref01_Get.T (x0 : ByteArray) (x1 : Int) (x2 : Int) (x3 : Bool) : Tr :=
  .cond (decide (x2 < (1 : Int))) (
    .ret (.tuple #[.int .u64 0, .int .i64 1])) <|
  .cond (decide ((8 : Int) < x2)) (
    .ret (.tuple #[.int .u64 0, .int .i64 1])) <|
  .cond (decide (x1 < (0 : Int))) (
    .ret (.tuple #[.int .u64 0, .int .i64 10])) <|
  .cond (decide (IntKind.i64.wrap ((↑x0.size : Int) - x2) < x1)) (
    .ret (.tuple #[.int .u64 0, .int .i64 10])) <|
  .loop 0 [.U64, .I] (((0 : Int), (0 : Int), ())) fun (r0 : Int × Int × Unit) =>
    .cond (decide (r0.2.1 < x2)) (
      .cond x3 (
        .need ((0 : Int) ≤ IntKind.i64.wrap (x1 + r0.2.1) ∧ IntKind.i64.wrap (x1 + r0.2.1) < (↑x0.size : Int)) <|
        .jmp 0 [.int .u64 (IntKind.u64.wrap (IntKind.u64.wrap (r0.1 * (256 : Int)) + IntKind.u64.wrap (bt x0 (IntKind.i64.wrap (x1 + r0.2.1))))), .int .i64 (IntKind.i64.wrap (r0.2.1 + (1 : Int)))]) <|
      .need ((0 : Int) ≤ IntKind.i64.wrap (IntKind.i64.wrap (IntKind.i64.wrap (x1 + x2) - (1 : Int)) - r0.2.1) ∧ IntKind.i64.wrap (IntKind.i64.wrap (IntKind.i64.wrap (x1 + x2) - (1 : Int)) - r0.2.1) < (↑x0.size : Int)) <|
      .jmp 0 [.int .u64 (IntKind.u64.wrap (IntKind.u64.wrap (r0.1 * (256 : Int)) + IntKind.u64.wrap (bt x0 (IntKind.i64.wrap (IntKind.i64.wrap (IntKind.i64.wrap (x1 + x2) - (1 : Int)) - r0.2.1))))), .int .i64 (IntKind.i64.wrap (r0.2.1 + (1 : Int)))]) <|
    .ret (.tuple #[.int .u64 r0.1, .int .i64 0])
theorem aqueductref01_Get.eq (x0 : ByteArray) (x1 : Int) (x2 : Int) (x3 : Bool) : trOf Tryz.prog CC (.seq .o (.seq .o (.seq .o (.seq .o (.seq (.seq .o (.seq (.loop [10, 11] [.sc (.int .u64), .sc (.int .i64)] .o) .o)) .o))))) Tryz.f70 [.string x0, .int .i64 x1, .int .i64 x2, .bool x3] = aqueductref01_Get.T x0 x1 x2 x3 := by kernel_rfl
theorem aqueductref01_Get.calls (x0 : ByteArray) (x1 : Int) (x2 : Int) (x3 : Bool) {R : Ending → World → Prop} {w : World} (h : (aqueductref01_Get.T x0 x1 x2 x3).wp Tryz.prog R Conts.none w) : Calls Tryz.prog 70 #[.string x0, .int .i64 x1, .int .i64 x2, .bool x3] w R :=
  calls_of_tr (args := [.string x0, .int .i64 x1, .int .i64 x2, .bool x3]) hCC hMO Tryz.func70 ((aqueductref01_Get.eq x0 x1 x2 x3).symm ▸ h)

/-- aqueduct/spot.Gap -/
def spot_Gap.T (x0 : Int × Bool × PUnit) (x1 : Int × Bool × PUnit) (x2 : Int) : Tr :=
  .new 44 [.int .i64 x0.1, .bool x0.2.1] fun (a0 : Addr) =>
  .new 44 [.int .i64 x1.1, .bool x1.2.1] fun (a1 : Addr) =>
  .ld a0 (.agg [.I, .bool]) fun (r2 : Int × Bool × Unit) =>
  .ld a1 (.agg [.I, .bool]) fun (r3 : Int × Bool × Unit) =>
  .new 44 [.int .i64 r2.1, .bool r2.2.1, .int .i64 r3.1, .bool r3.2.1] fun (a4 : Addr) =>
  .loop 0 [.I] (((0 : Int), ())) fun (r5 : Int × Unit) =>
    .cond (decide (r5.1 < (↑2 : Int))) (
      .need ((0 : Int) ≤ r5.1 ∧ r5.1 < (↑2 : Int)) <|
      .ld (a4.add (Int.toNat r5.1 * 2)) (.agg [.I, .bool]) fun (r6 : Int × Bool × Unit) =>
      .new 44 [.int .i64 0, .bool false] fun (a7 : Addr) =>
      .st a7 [.int .i64 r6.1, .bool r6.2.1] <|
      .ld a7 (.agg [.I, .bool]) fun (r8 : Int × Bool × Unit) =>
      .call 63 #[.agg #[.int .i64 r8.1, .bool r8.2.1], .int .i64 x2] .I fun (i9 : Int) =>
      .cond (!decide (i9 = (0 : Int))) (
        .ret (.tuple #[.int .i64 0, .int .i64 i9])) <|
      .jmp 0 [.int .i64 (IntKind.i64.wrap (r5.1 + (1 : Int)))]) <|
    .ld (a1.add 0) .I fun (i10 : Int) =>
    .ld (a0.add 0) .I fun (i11 : Int) =>
    .bind 0 [.I] (
      .ld (a0.add 1) .B fun (b12 : Bool) =>
      .ld (a1.add 1) .B fun (b13 : Bool) =>
      .cond (!b12 == b13) (
        .jmp 0 [.int .i64 (IntKind.i64.wrap (IntKind.i64.wrap (i10 - i11) + x2))]) <|
      .jmp 0 [.int .i64 (IntKind.i64.wrap (i10 - i11))]) fun (r14 : Int × Unit) =>
    .cond (decide (r14.1 < (0 : Int))) (
      .ret (.tuple #[.int .i64 (IntKind.i64.wrap (r14.1 + IntKind.i64.wrap ((2 : Int) * x2))), .int .i64 0])) <|
    .ret (.tuple #[.int .i64 r14.1, .int .i64 0])
theorem spot_Gap.eq (x0 : Int × Bool × PUnit) (x1 : Int × Bool × PUnit) (x2 : Int) : trOf Tryz.prog CC (.seq .o (.seq (.seq .o (.seq (.loop [16] [.sc (.int .i64)] .o) .o)) (.seq .o (.join [11] [.sc (.int .i64)] .o .o)))) Tryz.f71 [.agg #[.int .i64 x0.fst, .bool x0.snd.fst], .agg #[.int .i64 x1.fst, .bool x1.snd.fst], .int .i64 x2] = spot_Gap.T x0 x1 x2 := by kernel_rfl
theorem spot_Gap.calls (x0 : Int × Bool × PUnit) (x1 : Int × Bool × PUnit) (x2 : Int) {R : Ending → World → Prop} {w : World} (h : (spot_Gap.T x0 x1 x2).wp Tryz.prog R Conts.none w) : Calls Tryz.prog 71 #[.agg #[.int .i64 x0.fst, .bool x0.snd.fst], .agg #[.int .i64 x1.fst, .bool x1.snd.fst], .int .i64 x2] w R :=
  calls_of_tr (args := [.agg #[.int .i64 x0.fst, .bool x0.snd.fst], .agg #[.int .i64 x1.fst, .bool x1.snd.fst], .int .i64 x2]) hCC hMO Tryz.func71 ((spot_Gap.eq x0 x1 x2).symm ▸ h)

/-- aqueduct/aqueductref13.Gap -/
def aqueductref13_Gap.T (x0 : Int × Bool × PUnit) (x1 : Int × Bool × PUnit) (x2 : Int) : Tr :=
  .new 44 [.int .i64 x0.1, .bool x0.2.1] fun (a0 : Addr) =>
  .new 44 [.int .i64 x1.1, .bool x1.2.1] fun (a1 : Addr) =>
  .ld a0 (.agg [.I, .bool]) fun (r2 : Int × Bool × Unit) =>
  .call 64 #[.agg #[.int .i64 r2.1, .bool r2.2.1], .int .i64 x2] .I fun (i3 : Int) =>
  .cond (!decide (i3 = (0 : Int))) (
    .ret (.tuple #[.int .i64 0, .int .i64 i3])) <|
  .ld a1 (.agg [.I, .bool]) fun (r4 : Int × Bool × Unit) =>
  .call 64 #[.agg #[.int .i64 r4.1, .bool r4.2.1], .int .i64 x2] .I fun (i5 : Int) =>
  .cond (!decide (i5 = (0 : Int))) (
    .ret (.tuple #[.int .i64 0, .int .i64 i5])) <|
  .loop 0 [.I] (((0 : Int), ())) fun (r6 : Int × Unit) =>
    .ld a0 (.agg [.I, .bool]) fun (r7 : Int × Bool × Unit) =>
    .ld a1 (.agg [.I, .bool]) fun (r8 : Int × Bool × Unit) =>
    .sem (eqSem BinOp.neq (44) (Operand.tmp 22) (Operand.tmp 23) (.agg #[.int .i64 r7.1, .bool r7.2.1]) (.agg #[.int .i64 r8.1, .bool r8.2.1])) .B fun (b9 : Bool) =>
    .cond b9 (
      .ld a0 (.agg [.I, .bool]) fun (r10 : Int × Bool × Unit) =>
      .call 65 #[.agg #[.int .i64 r10.1, .bool r10.2.1], .int .i64 x2] (.one (.agg [.I, .bool])) fun (r11 : Int × Bool × Unit) =>
      .st a0 [.int .i64 r11.1, .bool r11.2.1] <|
      .jmp 0 [.int .i64 (IntKind.i64.wrap (r6.1 + (1 : Int)))]) <|
    .ret (.tuple #[.int .i64 r6.1, .int .i64 0])
theorem aqueductref13_Gap.eq (x0 : Int × Bool × PUnit) (x1 : Int × Bool × PUnit) (x2 : Int) : trOf Tryz.prog CC (.seq .o (.seq .o (.seq .o (.seq .o (.seq .o (.seq .o (.seq (.seq (.loop [9] [.sc (.int .i64)] .o) .o) .o))))))) Tryz.f72 [.agg #[.int .i64 x0.fst, .bool x0.snd.fst], .agg #[.int .i64 x1.fst, .bool x1.snd.fst], .int .i64 x2] = aqueductref13_Gap.T x0 x1 x2 := by kernel_rfl
theorem aqueductref13_Gap.calls (x0 : Int × Bool × PUnit) (x1 : Int × Bool × PUnit) (x2 : Int) {R : Ending → World → Prop} {w : World} (h : (aqueductref13_Gap.T x0 x1 x2).wp Tryz.prog R Conts.none w) : Calls Tryz.prog 72 #[.agg #[.int .i64 x0.fst, .bool x0.snd.fst], .agg #[.int .i64 x1.fst, .bool x1.snd.fst], .int .i64 x2] w R :=
  calls_of_tr (args := [.agg #[.int .i64 x0.fst, .bool x0.snd.fst], .agg #[.int .i64 x1.fst, .bool x1.snd.fst], .int .i64 x2]) hCC hMO Tryz.func72 ((aqueductref13_Gap.eq x0 x1 x2).symm ▸ h)

/-- aqueduct/words.may -/
def words_may.T (x0 : Int) (x1 : Int) : Tr :=
  .cond (decide ((1 : Int) ≤ x1)) (
    .cond (decide (x1 ≤ (8 : Int))) (
      .cond (decide (x1 = (8 : Int))) (
        .ret (.bool true)) <|
      .need ((0 : Int) ≤ IntKind.i64.wrap ((8 : Int) * x1)) <|
      .ret (.bool (decide (bshr IntKind.u64 x0 (IntKind.i64.wrap ((8 : Int) * x1)) = (0 : Int))))) <|
    .ret (.bool false)) <|
  .ret (.bool false)
theorem words_may.eq (x0 : Int) (x1 : Int) : trOf Tryz.prog CC (.o) Tryz.f74 [.int .u64 x0, .int .i64 x1] = words_may.T x0 x1 := by kernel_rfl
theorem words_may.calls (x0 : Int) (x1 : Int) {R : Ending → World → Prop} {w : World} (h : (words_may.T x0 x1).wp Tryz.prog R Conts.none w) : Calls Tryz.prog 74 #[.int .u64 x0, .int .i64 x1] w R :=
  calls_of_tr (args := [.int .u64 x0, .int .i64 x1]) hCC hMO Tryz.func74 ((words_may.eq x0 x1).symm ▸ h)

/-- aqueduct/words.Turn -/
def words_Turn.T (x0 : ByteArray) : Tr :=
  .sem (Go.Instr.makeSlice (65) (.int .i64 ((↑x0.size : Int))) (.int .i64 ((↑x0.size : Int)))) .L fun (l0 : Sl) =>
  .loop 0 [.I] (((0 : Int), ())) fun (r1 : Int × Unit) =>
    .cond (decide (r1.1 < (↑x0.size : Int))) (
      .need ((0 : Int) ≤ r1.1 ∧ r1.1 < (↑x0.size : Int)) <|
      .need ((0 : Int) ≤ IntKind.i64.wrap (IntKind.i64.wrap ((↑x0.size : Int) - (1 : Int)) - r1.1) ∧ IntKind.i64.wrap (IntKind.i64.wrap ((↑x0.size : Int) - (1 : Int)) - r1.1) < (↑l0.n : Int)) <|
      .nil l0.a fun (a2 : Addr) =>
      .st (a2.add ((IntKind.i64.wrap (IntKind.i64.wrap ((↑x0.size : Int) - (1 : Int)) - r1.1)).toNat * 1)) [.int .u8 (bt x0 r1.1)] <|
      .jmp 0 [.int .i64 (IntKind.i64.wrap (r1.1 + (1 : Int)))]) <|
    .sem (Go.convert (65) (9) (.slice l0.a l0.n l0.c)) .S fun (s3 : ByteArray) =>
    .ret (.string s3)
theorem words_Turn.eq (x0 : ByteArray) : trOf Tryz.prog CC (.seq .o (.seq .o (.seq (.seq .o (.seq (.loop [10] [.sc (.int .i64)] .o) .o)) .o))) Tryz.f75 [.string x0] = words_Turn.T x0 := by kernel_rfl
theorem words_Turn.calls (x0 : ByteArray) {R : Ending → World → Prop} {w : World} (h : (words_Turn.T x0).wp Tryz.prog R Conts.none w) : Calls Tryz.prog 75 #[.string x0] w R :=
  calls_of_tr (args := [.string x0]) hCC hMO Tryz.func75 ((words_Turn.eq x0).symm ▸ h)

/-- slices.Sorted[int] -/
def slices_Sorted_int.T (x0 : Value) : Tr :=
  .call 84 #[x0] .L fun (l0 : Sl) =>
  .call 85 #[.slice l0.a l0.n l0.c] (.tup []) fun (u1 : Unit) =>
  .ret (.slice l0.a l0.n l0.c)
theorem slices_Sorted_int.eq (x0 : Value) : trOf Tryz.prog CC (.o) Tryz.f76 [x0] = slices_Sorted_int.T x0 := by kernel_rfl
theorem slices_Sorted_int.calls (x0 : Value) {R : Ending → World → Prop} {w : World} (h : (slices_Sorted_int.T x0).wp Tryz.prog R Conts.none w) : Calls Tryz.prog 76 #[x0] w R :=
  calls_of_tr (args := [x0]) hCC hMO Tryz.func76 ((slices_Sorted_int.eq x0).symm ▸ h)

/-- maps.Keys[map[int]int,int,int] -/
def maps_Keys_mapintintintint.T (x0 : Option Nat) : Tr :=
  .new 76 [.map x0] fun (a0 : Addr) =>
  .ret (.func (Fn.func 86) #[] #[.pointer (some a0)])
theorem maps_Keys_mapintintintint.eq (x0 : Option Nat) : trOf Tryz.prog CC (.o) Tryz.f77 [.map x0] = maps_Keys_mapintintintint.T x0 := by kernel_rfl
theorem maps_Keys_mapintintintint.calls (x0 : Option Nat) {R : Ending → World → Prop} {w : World} (h : (maps_Keys_mapintintintint.T x0).wp Tryz.prog R Conts.none w) : Calls Tryz.prog 77 #[.map x0] w R :=
  calls_of_tr (args := [.map x0]) hCC hMO Tryz.func77 ((maps_Keys_mapintintintint.eq x0).symm ▸ h)

/-- slices.Sort[[]int,int] -/
def slices_Sort_intint.T (x0 : Sl) : Tr :=
  .call 94 #[.int .u64 (IntKind.u64.wrap (↑x0.n : Int))] .I fun (i0 : Int) =>
  .call 93 #[.slice x0.a x0.n x0.c, .int .i64 0, .int .i64 ((↑x0.n : Int)), .int .i64 i0] (.tup []) fun (u1 : Unit) =>
  .ret (.tuple #[])
theorem slices_Sort_intint.eq (x0 : Sl) : trOf Tryz.prog CC (.o) Tryz.f85 [.slice x0.a x0.n x0.c] = slices_Sort_intint.T x0 := by kernel_rfl
theorem slices_Sort_intint.calls (x0 : Sl) {R : Ending → World → Prop} {w : World} (h : (slices_Sort_intint.T x0).wp Tryz.prog R Conts.none w) : Calls Tryz.prog 85 #[.slice x0.a x0.n x0.c] w R :=
  calls_of_tr (args := [.slice x0.a x0.n x0.c]) hCC hMO Tryz.func85 ((slices_Sort_intint.eq x0).symm ▸ h)

/-- cmp.Less[int] -/
def cmp_Less_int.T (x0 : Int) (x1 : Int) : Tr :=
  .call 113 #[.int .i64 x0] .B fun (b0 : Bool) =>
  .cond b0 (
    .call 113 #[.int .i64 x1] .B fun (b1 : Bool) =>
    .cond (!b1) (
      .ret (.bool true)) <|
    .ret (.bool (decide (x0 < x1)))) <|
  .ret (.bool (decide (x0 < x1)))
theorem cmp_Less_int.eq (x0 : Int) (x1 : Int) : trOf Tryz.prog CC (.o) Tryz.f103 [.int .i64 x0, .int .i64 x1] = cmp_Less_int.T x0 x1 := by kernel_rfl
theorem cmp_Less_int.calls (x0 : Int) (x1 : Int) {R : Ending → World → Prop} {w : World} (h : (cmp_Less_int.T x0 x1).wp Tryz.prog R Conts.none w) : Calls Tryz.prog 103 #[.int .i64 x0, .int .i64 x1] w R :=
  calls_of_tr (args := [.int .i64 x0, .int .i64 x1]) hCC hMO Tryz.func103 ((cmp_Less_int.eq x0 x1).symm ▸ h)

/-- cmp.isNaN[int] -/
def cmp_isNaN_int.T (x0 : Int) : Tr :=
  .ret (.bool (!decide (x0 = x0)))
theorem cmp_isNaN_int.eq (x0 : Int) : trOf Tryz.prog CC (.o) Tryz.f113 [.int .i64 x0] = cmp_isNaN_int.T x0 := by kernel_rfl
theorem cmp_isNaN_int.calls (x0 : Int) {R : Ending → World → Prop} {w : World} (h : (cmp_isNaN_int.T x0).wp Tryz.prog R Conts.none w) : Calls Tryz.prog 113 #[.int .i64 x0] w R :=
  calls_of_tr (args := [.int .i64 x0]) hCC hMO Tryz.func113 ((cmp_isNaN_int.eq x0).symm ▸ h)

end Go.Proofs.YthfcneahnldgnaaGreat
