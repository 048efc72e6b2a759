/- Trees: printed by a program of this session's out of the loaded code; each is held against the code by the kernel. -/
import Derived.Test.YthfcneahnldgnaaTrees
import Derived.Test.YthfcneahnldgnaaProg
import Derived.KernelRfl
namespace Go.Proofs.Ythfcneahnldgnaa
open Go Vk
set_option linter.unusedVariables false

/-- aqueduct/aqueductlaw15.DrvqRefuses -/
def aqueductlaw15_DrvqRefuses.T (x0 : Int × Int × Int × Int × Int × Sl × PUnit) : Tr :=
  .new 26 [.int .i64 x0.1, .int .i64 x0.2.1, .int .i64 x0.2.2.1, .int .i64 x0.2.2.2.1, .int .i64 x0.2.2.2.2.1, .slice x0.2.2.2.2.2.1.a x0.2.2.2.2.2.1.n x0.2.2.2.2.2.1.c] fun (a0 : Addr) =>
  .ld a0 (.agg [.I, .I, .I, .I, .I, .slc]) fun (r1 : Int × Int × Int × Int × Int × Sl × Unit) =>
  .call 7 #[.agg #[.int .i64 r1.1, .int .i64 r1.2.1, .int .i64 r1.2.2.1, .int .i64 r1.2.2.2.1, .int .i64 r1.2.2.2.2.1, .slice r1.2.2.2.2.2.1.a r1.2.2.2.2.2.1.n r1.2.2.2.2.2.1.c]] (.tup [.P, .P, .P, .B]) fun (r2 : Option Addr × Option Addr × Option Addr × Bool × Unit) =>
  .cond (!r2.2.2.2.1) (
    .ret (.bool false)) <|
  .loop 0 [.I] (((0 : Int), ())) fun (r3 : Int × Unit) =>
    .cond (!Option.isNone r2.2.1) (
      .ld (a0.add 5) .L fun (l4 : Sl) =>
      .cond (decide (r3.1 < (↑l4.n : Int))) (
        .cond (decide (r3.1 < (80 : Int))) (
          .ld (a0.add 5) .L fun (l5 : Sl) =>
          .need ((0 : Int) ≤ r3.1 ∧ r3.1 < (↑l5.n : Int)) <|
          .nil l5.a fun (a6 : Addr) =>
          .ld (a6.add (Int.toNat r3.1 * 10)) (.agg [.I, .I, .I, .I, .slc, .str, .I, .bool, .I, .bool]) fun (r7 : Int × Int × Int × Int × Sl × ByteArray × Int × Bool × Int × Bool × Unit) =>
          .new 36 [.int .i64 0, .int .i64 0, .int .i64 0, .int .i64 0, .slice none (0) (0), .string (ByteArray.mk #[]), .int .i64 0, .bool false, .int .i64 0, .bool false] fun (a8 : Addr) =>
          .st a8 [.int .i64 r7.1, .int .i64 r7.2.1, .int .i64 r7.2.2.1, .int .i64 r7.2.2.2.1, .slice r7.2.2.2.2.1.a r7.2.2.2.2.1.n r7.2.2.2.2.1.c, .string r7.2.2.2.2.2.1, .int .i64 r7.2.2.2.2.2.2.1, .bool r7.2.2.2.2.2.2.2.1, .int .i64 r7.2.2.2.2.2.2.2.2.1, .bool r7.2.2.2.2.2.2.2.2.2.1] <|
          .call 8 #[.pointer r2.1] .S fun (s9 : ByteArray) =>
          .call 9 #[.pointer r2.2.1] .I fun (i10 : Int) =>
          .call 10 #[.pointer r2.2.1] .L fun (l11 : Sl) =>
          .call 11 #[.pointer r2.2.1] (.one (.agg [.I, .bool])) fun (r12 : Int × Bool × Unit) =>
          .new 42 [.int .i64 0, .bool false] fun (a13 : Addr) =>
          .st a13 [.int .i64 r12.1, .bool r12.2.1] <|
          .ld (a8.add 0) .I fun (i14 : Int) =>
          .cond (decide (i14 = (0 : Int))) (
            .ld a8 (.agg [.I, .I, .I, .I, .slc, .str, .I, .bool, .I, .bool]) fun (r15 : Int × Int × Int × Int × Sl × ByteArray × Int × Bool × Int × Bool × Unit) =>
            .call 13 #[.agg #[.int .i64 r15.1, .int .i64 r15.2.1, .int .i64 r15.2.2.1, .int .i64 r15.2.2.2.1, .slice r15.2.2.2.2.1.a r15.2.2.2.2.1.n r15.2.2.2.2.1.c, .string r15.2.2.2.2.2.1, .int .i64 r15.2.2.2.2.2.2.1, .bool r15.2.2.2.2.2.2.2.1, .int .i64 r15.2.2.2.2.2.2.2.2.1, .bool r15.2.2.2.2.2.2.2.2.2.1]] .L fun (l16 : Sl) =>
            .call 12 #[.pointer r2.2.1, .slice l16.a l16.n l16.c] (.tup [.I, .I]) fun (r17 : Int × Int × Unit) =>
            .bind 1 [] (
              .cond (!decide (r17.2.1 = (0 : Int))) (
                .call 8 #[.pointer r2.1] .S fun (s18 : ByteArray) =>
                .cond (!decide (s18 = s9)) (
                  .ret (.bool false)) <|
                .call 9 #[.pointer r2.2.1] .I fun (i19 : Int) =>
                .cond (!decide (i19 = i10)) (
                  .ret (.bool false)) <|
                .call 10 #[.pointer r2.2.1] .L fun (l20 : Sl) =>
                .call 14 #[.slice l20.a l20.n l20.c, .slice l11.a l11.n l11.c] .B fun (b21 : Bool) =>
                .cond (!b21) (
                  .ret (.bool false)) <|
                .cond (!decide (r17.1 = (0 : Int))) (
                  .ret (.bool false)) <|
                .jmp 1 []) <|
              .jmp 1 []) fun (u22 : Unit) =>
            .tick <|
            .cond (decide (r17.2.1 = (0 : Int))) (
              .ld (a8.add 4) .L fun (l23 : Sl) =>
              .calln 9 #[.pointer r2.2.1] .I fun (i24 : Int) =>
              .keep [(a8.add 4, [.slice l23.a l23.n l23.c])] <|
              .cond (!decide (i24 = IntKind.i64.wrap (i10 - (↑l23.n : Int)))) (
                .ret (.bool false)) <|
              .calln 10 #[.pointer r2.2.1] .L fun (l25 : Sl) =>
              .keep [(a8.add 4, [.slice l23.a l23.n l23.c])] <|
              .cond (!decide ((↑l25.n : Int) = IntKind.i64.wrap ((↑l11.n : Int) + (1 : Int)))) (
                .ret (.bool false)) <|
              .cond (decide (r17.1 < (0 : Int))) (
                .ret (.bool false)) <|
              .ld ((a0.add 1).add 1) .I fun (i26 : Int) =>
              .cond (decide (i26 ≤ r17.1)) (
                .ret (.bool false)) <|
              .jmp 0 [.int .i64 (IntKind.i64.wrap (r3.1 + (1 : Int)))]) <|
            .jmp 0 [.int .i64 (IntKind.i64.wrap (r3.1 + (1 : Int)))]) <|
          .cond (decide (i14 = (1 : Int))) (
            .call 15 #[.pointer r2.2.1] (.tup [.I, .I, .B, .I]) fun (r27 : Int × Int × Bool × Int × Unit) =>
            .loop 1 [.B, .I] ((false, (0 : Int), ())) fun (r28 : Bool × Int × Unit) =>
              .cond (decide (r28.2.1 < (↑l11.n : Int))) (
                .cond r28.1 (
                  .jmp 1 [.bool true, .int .i64 (IntKind.i64.wrap (r28.2.1 + (1 : Int)))]) <|
                .need ((0 : Int) ≤ r28.2.1 ∧ r28.2.1 < (↑l11.n : Int)) <|
                .nil l11.a fun (a29 : Addr) =>
                .ld (a29.add (Int.toNat r28.2.1 * 1)) .I fun (i30 : Int) =>
                .jmp 1 [.bool (decide (i30 = r27.1)), .int .i64 (IntKind.i64.wrap (r28.2.1 + (1 : Int)))]) <|
              .tick <|
              .cond (!r27.2.2.1 == r28.1) (
                .cond r27.2.2.1 (
                  .ret (.bool false)) <|
                .cond r27.2.2.1 (
                  .cond (!decide (r27.2.2.2.1 = (0 : Int))) (
                    .ret (.bool false)) <|
                  .calln 10 #[.pointer r2.2.1] .L fun (l31 : Sl) =>
                  .cond (!decide ((↑l31.n : Int) = IntKind.i64.wrap ((↑l11.n : Int) - (1 : Int)))) (
                    .ret (.bool false)) <|
                  .cond (!r27.2.2.1) (
                    .calln 10 #[.pointer r2.2.1] .L fun (l32 : Sl) =>
                    .calln 14 #[.slice l32.a l32.n l32.c, .slice l11.a l11.n l11.c] .B fun (b33 : Bool) =>
                    .cond (!b33) (
                      .ret (.bool false)) <|
                    .ld a13 (.agg [.I, .bool]) fun (r34 : Int × Bool × Unit) =>
                    .calln 11 #[.pointer r2.2.1] (.one (.agg [.I, .bool])) fun (r35 : Int × Bool × Unit) =>
                    .keep [(a13, [.int .i64 r34.1, .bool r34.2.1])] <|
                    .sem (eqSem BinOp.neq (42) (Operand.tmp 183) (Operand.tmp 184) (.agg #[.int .i64 r35.1, .bool r35.2.1]) (.agg #[.int .i64 r34.1, .bool r34.2.1])) .B fun (b36 : Bool) =>
                    .cond b36 (
                      .ret (.bool false)) <|
                    .calln 8 #[.pointer r2.1] .S fun (s37 : ByteArray) =>
                    .cond (!decide (s37 = s9)) (
                      .ret (.bool false)) <|
                    .jmp 0 [.int .i64 (IntKind.i64.wrap (r3.1 + (1 : Int)))]) <|
                  .calln 8 #[.pointer r2.1] .S fun (s38 : ByteArray) =>
                  .cond (!decide (s38 = s9)) (
                    .ret (.bool false)) <|
                  .jmp 0 [.int .i64 (IntKind.i64.wrap (r3.1 + (1 : Int)))]) <|
                .cond (!r27.2.2.1) (
                  .calln 10 #[.pointer r2.2.1] .L fun (l39 : Sl) =>
                  .calln 14 #[.slice l39.a l39.n l39.c, .slice l11.a l11.n l11.c] .B fun (b40 : Bool) =>
                  .cond (!b40) (
                    .ret (.bool false)) <|
                  .ld a13 (.agg [.I, .bool]) fun (r41 : Int × Bool × Unit) =>
                  .calln 11 #[.pointer r2.2.1] (.one (.agg [.I, .bool])) fun (r42 : Int × Bool × Unit) =>
                  .keep [(a13, [.int .i64 r41.1, .bool r41.2.1])] <|
                  .sem (eqSem BinOp.neq (42) (Operand.tmp 183) (Operand.tmp 184) (.agg #[.int .i64 r42.1, .bool r42.2.1]) (.agg #[.int .i64 r41.1, .bool r41.2.1])) .B fun (b43 : Bool) =>
                  .cond b43 (
                    .ret (.bool false)) <|
                  .calln 8 #[.pointer r2.1] .S fun (s44 : ByteArray) =>
                  .cond (!decide (s44 = s9)) (
                    .ret (.bool false)) <|
                  .jmp 0 [.int .i64 (IntKind.i64.wrap (r3.1 + (1 : Int)))]) <|
                .calln 8 #[.pointer r2.1] .S fun (s45 : ByteArray) =>
                .cond (!decide (s45 = s9)) (
                  .ret (.bool false)) <|
                .jmp 0 [.int .i64 (IntKind.i64.wrap (r3.1 + (1 : Int)))]) <|
              .cond r27.2.2.1 (
                .cond (!decide (r27.2.2.2.1 = (0 : Int))) (
                  .ret (.bool false)) <|
                .calln 10 #[.pointer r2.2.1] .L fun (l46 : Sl) =>
                .cond (!decide ((↑l46.n : Int) = IntKind.i64.wrap ((↑l11.n : Int) - (1 : Int)))) (
                  .ret (.bool false)) <|
                .cond (!r27.2.2.1) (
                  .calln 10 #[.pointer r2.2.1] .L fun (l47 : Sl) =>
                  .calln 14 #[.slice l47.a l47.n l47.c, .slice l11.a l11.n l11.c] .B fun (b48 : Bool) =>
                  .cond (!b48) (
                    .ret (.bool false)) <|
                  .ld a13 (.agg [.I, .bool]) fun (r49 : Int × Bool × Unit) =>
                  .calln 11 #[.pointer r2.2.1] (.one (.agg [.I, .bool])) fun (r50 : Int × Bool × Unit) =>
                  .keep [(a13, [.int .i64 r49.1, .bool r49.2.1])] <|
                  .sem (eqSem BinOp.neq (42) (Operand.tmp 183) (Operand.tmp 184) (.agg #[.int .i64 r50.1, .bool r50.2.1]) (.agg #[.int .i64 r49.1, .bool r49.2.1])) .B fun (b51 : Bool) =>
                  .cond b51 (
                    .ret (.bool false)) <|
                  .calln 8 #[.pointer r2.1] .S fun (s52 : ByteArray) =>
                  .cond (!decide (s52 = s9)) (
                    .ret (.bool false)) <|
                  .jmp 0 [.int .i64 (IntKind.i64.wrap (r3.1 + (1 : Int)))]) <|
                .calln 8 #[.pointer r2.1] .S fun (s53 : ByteArray) =>
                .cond (!decide (s53 = s9)) (
                  .ret (.bool false)) <|
                .jmp 0 [.int .i64 (IntKind.i64.wrap (r3.1 + (1 : Int)))]) <|
              .cond (!r27.2.2.1) (
                .calln 10 #[.pointer r2.2.1] .L fun (l54 : Sl) =>
                .calln 14 #[.slice l54.a l54.n l54.c, .slice l11.a l11.n l11.c] .B fun (b55 : Bool) =>
                .cond (!b55) (
                  .ret (.bool false)) <|
                .ld a13 (.agg [.I, .bool]) fun (r56 : Int × Bool × Unit) =>
                .calln 11 #[.pointer r2.2.1] (.one (.agg [.I, .bool])) fun (r57 : Int × Bool × Unit) =>
                .keep [(a13, [.int .i64 r56.1, .bool r56.2.1])] <|
                .sem (eqSem BinOp.neq (42) (Operand.tmp 183) (Operand.tmp 184) (.agg #[.int .i64 r57.1, .bool r57.2.1]) (.agg #[.int .i64 r56.1, .bool r56.2.1])) .B fun (b58 : Bool) =>
                .cond b58 (
                  .ret (.bool false)) <|
                .calln 8 #[.pointer r2.1] .S fun (s59 : ByteArray) =>
                .cond (!decide (s59 = s9)) (
                  .ret (.bool false)) <|
                .jmp 0 [.int .i64 (IntKind.i64.wrap (r3.1 + (1 : Int)))]) <|
              .calln 8 #[.pointer r2.1] .S fun (s60 : ByteArray) =>
              .cond (!decide (s60 = s9)) (
                .ret (.bool false)) <|
              .jmp 0 [.int .i64 (IntKind.i64.wrap (r3.1 + (1 : Int)))]) <|
          .cond (decide (i14 = (2 : Int))) (
            .tick <|
            .ld ((a0.add 1).add 0) .I fun (i61 : Int) =>
            .ld (a13.add 0) .I fun (i62 : Int) =>
            .ld a8 (.agg [.I, .I, .I, .I, .slc, .str, .I, .bool, .I, .bool]) fun (r63 : Int × Int × Int × Int × Sl × ByteArray × Int × Bool × Int × Bool × Unit) =>
            .ld (a13.add 1) .B fun (b64 : Bool) =>
            .calln 17 #[.agg #[.int .i64 r63.1, .int .i64 r63.2.1, .int .i64 r63.2.2.1, .int .i64 r63.2.2.2.1, .slice r63.2.2.2.2.1.a r63.2.2.2.2.1.n r63.2.2.2.2.1.c, .string r63.2.2.2.2.2.1, .int .i64 r63.2.2.2.2.2.2.1, .bool r63.2.2.2.2.2.2.2.1, .int .i64 r63.2.2.2.2.2.2.2.2.1, .bool r63.2.2.2.2.2.2.2.2.2.1], .bool b64] .S fun (s65 : ByteArray) =>
            .keep [(a13.add 0, [.int .i64 i62]), ((a0.add 1).add 0, [.int .i64 i61])] <|
            .calln 16 #[.pointer r2.1, .int .i64 (IntKind.i64.wrap (IntKind.i64.wrap (i61 + IntKind.i64.wrap ((16 : Int) * i62)) + (8 : Int))), .string s65] .I fun (i66 : Int) =>
            .jmp 0 [.int .i64 (IntKind.i64.wrap (r3.1 + (1 : Int)))]) <|
          .cond (decide (i14 = (3 : Int))) (
            .tick <|
            .ld (a8.add 1) .I fun (i67 : Int) =>
            .ld (a8.add 5) .S fun (s68 : ByteArray) =>
            .ld (a8.add 5) .S fun (s69 : ByteArray) =>
            .need ((0 : Int) ≤ imn (↑s69.size : Int) (200 : Int) ∧ imn (↑s69.size : Int) (200 : Int) ≤ (↑s68.size : Int)) <|
            .calln 16 #[.pointer r2.1, .int .i64 (band IntKind.i64 i67 (4095 : Int)), .string (s68.extract 0 (imn (↑s69.size : Int) (200 : Int)).toNat)] .I fun (i70 : Int) =>
            .jmp 0 [.int .i64 (IntKind.i64.wrap (r3.1 + (1 : Int)))]) <|
          .jmp 0 [.int .i64 (IntKind.i64.wrap (r3.1 + (1 : Int)))]) <|
        .call 18 #[] .B fun (b71 : Bool) =>
        .ret (.bool b71)) <|
      .call 18 #[] .B fun (b72 : Bool) =>
      .ret (.bool b72)) <|
    .call 18 #[] .B fun (b73 : Bool) =>
    .ret (.bool b73)
theorem aqueductlaw15_DrvqRefuses.eq (x0 : Int × Int × Int × Int × Int × Sl × PUnit) : trOf Try.prog CC (.seq .o (.seq .o (.seq .o (.seq (.seq .o (.seq (.loop [7] [.sc (.int .i64)] (.seq .o (.seq (.seq (.seq .o (.seq .o (.seq .o (.seq (.seq .o (.seq (.seq .o (.join [] [] .o .o)) (.seq .o (.seq (.seq .o (.seq .o (.seq (.seq .o (.seq (.loop [19, 20] [.sc .bool, .sc (.int .i64)] .o) .o)) .o))) .o)))) .o)))) .o) .o))) .o)) .o)))) Try.f3 [.agg #[.int .i64 x0.fst, .int .i64 x0.snd.fst, .int .i64 x0.snd.snd.fst, .int .i64 x0.snd.snd.snd.fst, .int .i64 x0.snd.snd.snd.snd.fst, .slice x0.snd.snd.snd.snd.snd.fst.a x0.snd.snd.snd.snd.snd.fst.n x0.snd.snd.snd.snd.snd.fst.c]] = aqueductlaw15_DrvqRefuses.T x0 := by kernel_rfl
theorem aqueductlaw15_DrvqRefuses.calls (x0 : Int × Int × Int × Int × Int × Sl × PUnit) {R : Ending → World → Prop} {w : World} (h : (aqueductlaw15_DrvqRefuses.T x0).wp Try.prog R Conts.none w) : Calls Try.prog 3 #[.agg #[.int .i64 x0.fst, .int .i64 x0.snd.fst, .int .i64 x0.snd.snd.fst, .int .i64 x0.snd.snd.snd.fst, .int .i64 x0.snd.snd.snd.snd.fst, .slice x0.snd.snd.snd.snd.snd.fst.a x0.snd.snd.snd.snd.snd.fst.n x0.snd.snd.snd.snd.snd.fst.c]] w R :=
  calls_of_tr (args := [.agg #[.int .i64 x0.fst, .int .i64 x0.snd.fst, .int .i64 x0.snd.snd.fst, .int .i64 x0.snd.snd.snd.fst, .int .i64 x0.snd.snd.snd.snd.fst, .slice x0.snd.snd.snd.snd.snd.fst.a x0.snd.snd.snd.snd.snd.fst.n x0.snd.snd.snd.snd.snd.fst.c]]) hCC hMO Try.func3 ((aqueductlaw15_DrvqRefuses.eq x0).symm ▸ h)

/-- aqueduct/aqueductlaw15.DrvqFull -/
def aqueductlaw15_DrvqFull.T (x0 : Int) (x1 : Sl) : Tr :=
  .call 7 #[.agg #[.int .i64 1024, .int .i64 0, .int .i64 (IntKind.i64.wrap ((1 : Int) + band IntKind.i64 x0 (7 : Int))), .int .i64 512, .int .i64 516, .slice none (0) (0)]] (.tup [.P, .P, .P, .B]) fun (r0 : Option Addr × Option Addr × Option Addr × Bool × Unit) =>
  .cond (!r0.2.2.2.1) (
    .ret (.bool false)) <|
  .cond (Option.isNone r0.2.1) (
    .ret (.bool false)) <|
  .loop 0 [.I, .I, .I] ((IntKind.i64.wrap ((1 : Int) + band IntKind.i64 x0 (7 : Int)), (0 : Int), (0 : Int), ())) fun (r1 : Int × Int × Int × Unit) =>
    .cond (decide (r1.2.2.1 < (↑x1.n : Int))) (
      .cond (decide (r1.2.2.1 < (20 : Int))) (
        .need ((0 : Int) ≤ r1.2.2.1 ∧ r1.2.2.1 < (↑x1.n : Int)) <|
        .nil x1.a fun (a2 : Addr) =>
        .ld (a2.add (Int.toNat r1.2.2.1 * 1)) .I fun (i3 : Int) =>
        .new 56 [] fun (a4 : Addr) =>
        .loop 1 [.L, .I] ((Sl.mk (some a4) 0 0, (0 : Int), ())) fun (r5 : Sl × Int × Unit) =>
          .cond (decide (r5.2.1 < IntKind.i64.wrap ((1 : Int) + band IntKind.i64 i3 (3 : Int)))) (
            .new 56 [.int .i64 (IntKind.i64.wrap ((600 : Int) + r5.2.1)), .int .i64 1, .bool false] fun (a6 : Addr) =>
            .sem (Go.Builtin.append_ #[32, 32] (32) #[.slice r5.1.a r5.1.n r5.1.c, .slice (some a6) (1) (1)]) .L fun (l7 : Sl) =>
            .jmp 1 [.slice l7.a l7.n l7.c, .int .i64 (IntKind.i64.wrap (r5.2.1 + (1 : Int)))]) <|
          .call 12 #[.pointer r0.2.1, .slice r5.1.a r5.1.n r5.1.c] (.tup [.I, .I]) fun (r8 : Int × Int × Unit) =>
          .bind 1 [] (
            .cond (!decide (r8.2.1 = (0 : Int)) == decide (IntKind.i64.wrap ((1 : Int) + band IntKind.i64 i3 (3 : Int)) ≤ r1.1)) (
              .ret (.bool false)) <|
            .cond (decide (r8.2.1 = (0 : Int))) (
              .cond (!decide (r8.1 = r1.2.1)) (
                .ret (.bool false)) <|
              .cond (!decide (r8.2.1 = (0 : Int))) (
                .cond (!decide (r8.2.1 = (151 : Int))) (
                  .ret (.bool false)) <|
                .jmp 1 []) <|
              .jmp 1 []) <|
            .cond (!decide (r8.2.1 = (0 : Int))) (
              .cond (!decide (r8.2.1 = (151 : Int))) (
                .ret (.bool false)) <|
              .jmp 1 []) <|
            .jmp 1 []) fun (u9 : Unit) =>
          .bind 1 [.I, .I] (
            .cond (decide (r8.2.1 = (0 : Int))) (
              .jmp 1 [.int .i64 (IntKind.i64.wrap (r1.1 - IntKind.i64.wrap ((1 : Int) + band IntKind.i64 i3 (3 : Int)))), .int .i64 (IntKind.i64.wrap (r1.2.1 + (1 : Int)))]) <|
            .jmp 1 [.int .i64 r1.1, .int .i64 r1.2.1]) fun (r10 : Int × Int × Unit) =>
          .call 9 #[.pointer r0.2.1] .I fun (i11 : Int) =>
          .cond (!decide (i11 = r10.1)) (
            .ret (.bool false)) <|
          .call 10 #[.pointer r0.2.1] .L fun (l12 : Sl) =>
          .cond (!decide ((↑l12.n : Int) = r10.2.1)) (
            .ret (.bool false)) <|
          .jmp 0 [.int .i64 r10.1, .int .i64 r10.2.1, .int .i64 (IntKind.i64.wrap (r1.2.2.1 + (1 : Int)))]) <|
      .call 18 #[] .B fun (b13 : Bool) =>
      .ret (.bool b13)) <|
    .call 18 #[] .B fun (b14 : Bool) =>
    .ret (.bool b14)
theorem aqueductlaw15_DrvqFull.eq (x0 : Int) (x1 : Sl) : trOf Try.prog CC (.seq .o (.seq .o (.seq .o (.seq .o (.seq .o (.seq (.seq .o (.seq (.loop [10, 11, 12] [.sc (.int .i64), .sc (.int .i64), .sc (.int .i64)] (.seq .o (.seq (.seq (.seq .o (.seq .o (.seq (.seq .o (.seq (.loop [14, 15] [.sc .slc, .sc (.int .i64)] .o) .o)) (.seq .o (.join [] [] .o (.join [10, 11] [.sc (.int .i64), .sc (.int .i64)] .o .o)))))) .o) .o))) .o)) .o)))))) Try.f4 [.int .i64 x0, .slice x1.a x1.n x1.c] = aqueductlaw15_DrvqFull.T x0 x1 := by kernel_rfl
theorem aqueductlaw15_DrvqFull.calls (x0 : Int) (x1 : Sl) {R : Ending → World → Prop} {w : World} (h : (aqueductlaw15_DrvqFull.T x0 x1).wp Try.prog R Conts.none w) : Calls Try.prog 4 #[.int .i64 x0, .slice x1.a x1.n x1.c] w R :=
  calls_of_tr (args := [.int .i64 x0, .slice x1.a x1.n x1.c]) hCC hMO Try.func4 ((aqueductlaw15_DrvqFull.eq x0 x1).symm ▸ h)

/-- aqueduct/aqueductlaw15.DrvqNothing -/
def aqueductlaw15_DrvqNothing.T (x0 : Int) (x1 : Sl) : Tr :=
  .call 7 #[.agg #[.int .i64 1024, .int .i64 0, .int .i64 (IntKind.i64.wrap ((1 : Int) + band IntKind.i64 x0 (7 : Int))), .int .i64 512, .int .i64 516, .slice none (0) (0)]] (.tup [.P, .P, .P, .B]) fun (r0 : Option Addr × Option Addr × Option Addr × Bool × Unit) =>
  .cond (!r0.2.2.2.1) (
    .ret (.bool false)) <|
  .cond (Option.isNone r0.2.1) (
    .ret (.bool false)) <|
  .bind 0 [] (
    .loop 1 [.I] (((0 : Int), ())) fun (r1 : Int × Unit) =>
      .cond (decide (r1.1 < (↑x1.n : Int))) (
        .cond (decide (r1.1 < (20 : Int))) (
          .tick <|
          .need ((0 : Int) ≤ r1.1 ∧ r1.1 < (↑x1.n : Int)) <|
          .nil x1.a fun (a2 : Addr) =>
          .ld (a2.add (Int.toNat r1.1 * 1)) .I fun (i3 : Int) =>
          .need ((0 : Int) ≤ r1.1 ∧ r1.1 < (↑x1.n : Int)) <|
          .nil x1.a fun (a4 : Addr) =>
          .ld (a4.add (Int.toNat r1.1 * 1)) .I fun (i5 : Int) =>
          .new 56 [.int .i64 600, .int .i64 (IntKind.i64.wrap ((1 : Int) + band IntKind.i64 i3 (63 : Int))), .bool (!decide (band IntKind.i64 i5 (64 : Int) = (0 : Int)))] fun (a6 : Addr) =>
          .call 12 #[.pointer r0.2.1, .slice (some a6) (1) (1)] (.tup [.I, .I]) fun (r7 : Int × Int × Unit) =>
          .call 15 #[.pointer r0.2.1] (.tup [.I, .I, .B, .I]) fun (r8 : Int × Int × Bool × Int × Unit) =>
          .cond r8.2.2.1 (
            .ret (.bool false)) <|
          .cond (!decide (r8.1 = (0 : Int))) (
            .ret (.bool false)) <|
          .cond (!decide (r8.2.1 = (0 : Int))) (
            .ret (.bool false)) <|
          .cond (!decide (r8.2.2.2.1 = (0 : Int))) (
            .ret (.bool false)) <|
          .call 11 #[.pointer r0.2.1] (.one (.agg [.I, .bool])) fun (r9 : Int × Bool × Unit) =>
          .sem (eqSem BinOp.neq (42) (Operand.tmp 85) (Operand.tmp 86) (.agg #[.int .i64 r9.1, .bool r9.2.1]) (.agg #[.int .i64 0, .bool true])) .B fun (b10 : Bool) =>
          .cond b10 (
            .ret (.bool false)) <|
          .jmp 1 [.int .i64 (IntKind.i64.wrap (r1.1 + (1 : Int)))]) <|
        .jmp 0 []) <|
      .jmp 0 []) fun (u11 : Unit) =>
  .call 19 #[.pointer r0.1] .P fun (p12 : Option Addr) =>
  .cond p12.isNone (
    .ret (.bool false)) <|
  .call 20 #[.pointer r0.2.1, .pointer p12] .P fun (p13 : Option Addr) =>
  .cond (!p13.isNone) (
    .call 9 #[.pointer p13] .I fun (i14 : Int) =>
    .call 9 #[.pointer r0.2.1] .I fun (i15 : Int) =>
    .cond (decide (i14 = i15)) (
      .call 21 #[.pointer p12] .B fun (b16 : Bool) =>
      .cond b16 (
        .call 18 #[] .B fun (b17 : Bool) =>
        .ret (.bool b17)) <|
      .ret (.bool false)) <|
    .ret (.bool false)) <|
  .ret (.bool false)
theorem aqueductlaw15_DrvqNothing.eq (x0 : Int) (x1 : Sl) : trOf Try.prog CC (.seq .o (.seq .o (.seq .o (.seq .o (.join [] [] (.seq .o (.seq (.loop [10] [.sc (.int .i64)] .o) .o)) .o))))) Try.f5 [.int .i64 x0, .slice x1.a x1.n x1.c] = aqueductlaw15_DrvqNothing.T x0 x1 := by kernel_rfl
theorem aqueductlaw15_DrvqNothing.calls (x0 : Int) (x1 : Sl) {R : Ending → World → Prop} {w : World} (h : (aqueductlaw15_DrvqNothing.T x0 x1).wp Try.prog R Conts.none w) : Calls Try.prog 5 #[.int .i64 x0, .slice x1.a x1.n x1.c] w R :=
  calls_of_tr (args := [.int .i64 x0, .slice x1.a x1.n x1.c]) hCC hMO Try.func5 ((aqueductlaw15_DrvqNothing.eq x0 x1).symm ▸ h)

/-- aqueduct/aqueductlaw15.DrvqBoth -/
def aqueductlaw15_DrvqBoth.T (x0 : Int) (x1 : Sl) : Tr :=
  .new 23 [.int .i64 0, .int .i64 0, .int .i64 0, .int .i64 0] fun (a0 : Addr) =>
  .st a0 [.int .i64 0, .int .i64 (IntKind.i64.wrap ((1 : Int) + band IntKind.i64 x0 (31 : Int))), .int .i64 512, .int .i64 516] <|
  .call 22 #[.int .i64 1024] (.tup [.P, .I]) fun (r1 : Option Addr × Int × Unit) =>
  .cond (Option.isNone r1.1) (
    .ret (.bool false)) <|
  .cond (!decide (r1.2.1 = (0 : Int))) (
    .ret (.bool false)) <|
  .ld a0 (.agg [.I, .I, .I, .I]) fun (r2 : Int × Int × Int × Int × Unit) =>
  .call 23 #[.pointer r1.1, .agg #[.int .i64 r2.1, .int .i64 r2.2.1, .int .i64 r2.2.2.1, .int .i64 r2.2.2.2.1]] (.tup [.P, .I]) fun (r3 : Option Addr × Int × Unit) =>
  .ld a0 (.agg [.I, .I, .I, .I]) fun (r4 : Int × Int × Int × Int × Unit) =>
  .call 24 #[.pointer r1.1, .agg #[.int .i64 r4.1, .int .i64 r4.2.1, .int .i64 r4.2.2.1, .int .i64 r4.2.2.2.1]] (.tup [.P, .I]) fun (r5 : Option Addr × Int × Unit) =>
  .cond (Option.isNone r3.1) (
    .ret (.bool false)) <|
  .cond (Option.isNone r5.1) (
    .ret (.bool false)) <|
  .cond (!decide (r3.2.1 = (0 : Int))) (
    .ret (.bool false)) <|
  .cond (!decide (r5.2.1 = (0 : Int))) (
    .ret (.bool false)) <|
  .new 74 [] fun (a6 : Addr) =>
  .new 74 [] fun (a7 : Addr) =>
  .new 3 [] fun (a8 : Addr) =>
  .new 3 [] fun (a9 : Addr) =>
  .loop 0 [.L, .L, .L, .L, .I] ((Sl.mk (some a6) 0 0, Sl.mk (some a7) 0 0, Sl.mk (some a8) 0 0, Sl.mk (some a9) 0 0, (0 : Int), ())) fun (r10 : Sl × Sl × Sl × Sl × Int × Unit) =>
    .cond (decide (r10.2.2.2.2.1 < (↑x1.n : Int))) (
      .cond (decide (r10.2.2.2.2.1 < (100 : Int))) (
        .need ((0 : Int) ≤ r10.2.2.2.2.1 ∧ r10.2.2.2.2.1 < (↑x1.n : Int)) <|
        .nil x1.a fun (a11 : Addr) =>
        .ld (a11.add (Int.toNat r10.2.2.2.2.1 * 7)) (.agg [.slc, .bool, .bool, .bool, .I, .I, .I]) fun (r12 : Sl × Bool × Bool × Bool × Int × Int × Int × Unit) =>
        .new 71 [.slice none (0) (0), .bool false, .bool false, .bool false, .int .i64 0, .int .i64 0, .int .i64 0] fun (a13 : Addr) =>
        .st a13 [.slice r12.1.a r12.1.n r12.1.c, .bool r12.2.1, .bool r12.2.2.1, .bool r12.2.2.2.1, .int .i64 r12.2.2.2.2.1, .int .i64 r12.2.2.2.2.2.1, .int .i64 r12.2.2.2.2.2.2.1] <|
        .ld (a13.add 0) .L fun (l14 : Sl) =>
        .call 25 #[.slice l14.a l14.n l14.c] .L fun (l15 : Sl) =>
        .call 12 #[.pointer r3.1, .slice l15.a l15.n l15.c] (.tup [.I, .I]) fun (r16 : Int × Int × Unit) =>
        .bind 1 [.L] (
          .cond (decide (r16.2.1 = (0 : Int))) (
            .new 74 [.int .i64 r16.1, .int .i64 ((↑l15.n : Int)), .slice l15.a l15.n l15.c] fun (a17 : Addr) =>
            .sem (Go.Builtin.append_ #[69, 69] (69) #[.slice r10.1.a r10.1.n r10.1.c, .slice (some a17) (1) (1)]) .L fun (l18 : Sl) =>
            .jmp 1 [.slice l18.a l18.n l18.c]) <|
          .cond (decide (r16.2.1 = (151 : Int))) (
            .call 9 #[.pointer r3.1] .I fun (i19 : Int) =>
            .cond (decide ((↑l15.n : Int) ≤ i19)) (
              .ret (.bool false)) <|
            .jmp 1 [.slice r10.1.a r10.1.n r10.1.c]) <|
          .jmp 1 [.slice r10.1.a r10.1.n r10.1.c]) fun (r20 : Sl × Unit) =>
        .bind 1 [.L, .L] (
          .ld (a13.add 1) .B fun (b21 : Bool) =>
          .cond b21 (
            .call 26 #[.pointer r5.1] (.tup [(.agg [.I, .I, .slc]), .B, .I]) fun (r22 : (Int × Int × Sl × Unit) × Bool × Int × Unit) =>
            .new 74 [.int .i64 0, .int .i64 0, .slice none (0) (0)] fun (a23 : Addr) =>
            .st a23 [.int .i64 r22.1.1, .int .i64 r22.1.2.1, .slice r22.1.2.2.1.a r22.1.2.2.1.n r22.1.2.2.1.c] <|
            .cond (!decide (r22.2.2.1 = (0 : Int))) (
              .ret (.bool false)) <|
            .cond (!r22.2.1 == decide ((0 : Int) < (↑r20.1.n : Int))) (
              .ret (.bool false)) <|
            .cond r22.2.1 (
              .tick <|
              .ld a23 (.agg [.I, .I, .slc]) fun (r24 : Int × Int × Sl × Unit) =>
              .need ((0 : Int) ≤ (0 : Int) ∧ (0 : Int) < (↑r20.1.n : Int)) <|
              .nil r20.1.a fun (a25 : Addr) =>
              .ld (a25.add (Int.toNat (0 : Int) * 3)) (.agg [.I, .I, .slc]) fun (r26 : Int × Int × Sl × Unit) =>
              .calln 27 #[.agg #[.int .i64 r24.1, .int .i64 r24.2.1, .slice r24.2.2.1.a r24.2.2.1.n r24.2.2.1.c], .agg #[.int .i64 r26.1, .int .i64 r26.2.1, .slice r26.2.2.1.a r26.2.2.1.n r26.2.2.1.c]] .B fun (b27 : Bool) =>
              .cond (!b27) (
                .ret (.bool false)) <|
              .need ((0 : Int) ≤ (1 : Int) ∧ (1 : Int) ≤ (↑r20.1.n : Int)) <|
              .ld a23 (.agg [.I, .I, .slc]) fun (r28 : Int × Int × Sl × Unit) =>
              .new 74 [.int .i64 r28.1, .int .i64 r28.2.1, .slice r28.2.2.1.a r28.2.2.1.n r28.2.2.1.c] fun (a29 : Addr) =>
              .sem (Go.Builtin.append_ #[69, 69] (69) #[.slice r10.2.1.a r10.2.1.n r10.2.1.c, .slice (some a29) (1) (1)]) .L fun (l30 : Sl) =>
              .jmp 1 [.slice (slB r20.1.a (Int.toNat (1 : Int)) 3 r20.1.c) (r20.1.n - Int.toNat (1 : Int)) (r20.1.c - Int.toNat (1 : Int)), .slice l30.a l30.n l30.c]) <|
            .jmp 1 [.slice r20.1.a r20.1.n r20.1.c, .slice r10.2.1.a r10.2.1.n r10.2.1.c]) <|
          .jmp 1 [.slice r20.1.a r20.1.n r20.1.c, .slice r10.2.1.a r10.2.1.n r10.2.1.c]) fun (r31 : Sl × Sl × Unit) =>
        .bind 1 [.L, .L, .L] (
          .ld (a13.add 2) .B fun (b32 : Bool) =>
          .cond b32 (
            .cond (decide ((0 : Int) < (↑r31.2.1.n : Int))) (
              .ld (a13.add 4) .I fun (i33 : Int) =>
              .need ((↑r31.2.1.n : Int) ≠ (0 : Int)) <|
              .ld (a13.add 5) .I fun (i34 : Int) =>
              .tick <|
              .need ((0 : Int) ≤ (band IntKind.i64 i33 (65535 : Int)).tmod (↑r31.2.1.n : Int) ∧ (band IntKind.i64 i33 (65535 : Int)).tmod (↑r31.2.1.n : Int) < (↑r31.2.1.n : Int)) <|
              .nil r31.2.1.a fun (a35 : Addr) =>
              .ld ((a35.add (((band IntKind.i64 i33 (65535 : Int)).tmod (↑r31.2.1.n : Int)).toNat * 3)).add 0) .I fun (i36 : Int) =>
              .need ((0 : Int) ≤ (band IntKind.i64 i33 (65535 : Int)).tmod (↑r31.2.1.n : Int) ∧ (band IntKind.i64 i33 (65535 : Int)).tmod (↑r31.2.1.n : Int) < (↑r31.2.1.n : Int)) <|
              .nil r31.2.1.a fun (a37 : Addr) =>
              .ld ((a37.add (((band IntKind.i64 i33 (65535 : Int)).tmod (↑r31.2.1.n : Int)).toNat * 3)).add 1) .I fun (i38 : Int) =>
              .calln 28 #[.pointer r5.1, .int .i64 i36, .int .i64 i38, .int .i64 (band IntKind.i64 i34 (65535 : Int))] .I fun (i39 : Int) =>
              .cond (!decide (i39 = (0 : Int))) (
                .ret (.bool false)) <|
              .need ((0 : Int) ≤ (band IntKind.i64 i33 (65535 : Int)).tmod (↑r31.2.1.n : Int) ∧ (band IntKind.i64 i33 (65535 : Int)).tmod (↑r31.2.1.n : Int) < (↑r31.2.1.n : Int)) <|
              .nil r31.2.1.a fun (a40 : Addr) =>
              .ld ((a40.add (((band IntKind.i64 i33 (65535 : Int)).tmod (↑r31.2.1.n : Int)).toNat * 3)).add 0) .I fun (i41 : Int) =>
              .new 3 [.int .i64 i41] fun (a42 : Addr) =>
              .sem (Go.Builtin.append_ #[39, 39] (39) #[.slice r10.2.2.1.a r10.2.2.1.n r10.2.2.1.c, .slice (some a42) (1) (1)]) .L fun (l43 : Sl) =>
              .new 3 [.int .i64 (band IntKind.i64 i34 (65535 : Int))] fun (a44 : Addr) =>
              .sem (Go.Builtin.append_ #[39, 39] (39) #[.slice r10.2.2.2.1.a r10.2.2.2.1.n r10.2.2.2.1.c, .slice (some a44) (1) (1)]) .L fun (l45 : Sl) =>
              .call 29 #[.slice r31.2.1.a r31.2.1.n r31.2.1.c, .int .i64 ((band IntKind.i64 i33 (65535 : Int)).tmod (↑r31.2.1.n : Int))] .L fun (l46 : Sl) =>
              .jmp 1 [.slice l46.a l46.n l46.c, .slice l43.a l43.n l43.c, .slice l45.a l45.n l45.c]) <|
            .jmp 1 [.slice r31.2.1.a r31.2.1.n r31.2.1.c, .slice r10.2.2.1.a r10.2.2.1.n r10.2.2.1.c, .slice r10.2.2.2.1.a r10.2.2.2.1.n r10.2.2.2.1.c]) <|
          .jmp 1 [.slice r31.2.1.a r31.2.1.n r31.2.1.c, .slice r10.2.2.1.a r10.2.2.1.n r10.2.2.1.c, .slice r10.2.2.2.1.a r10.2.2.2.1.n r10.2.2.2.1.c]) fun (r47 : Sl × Sl × Sl × Unit) =>
        .bind 1 [.L, .L] (
          .ld (a13.add 3) .B fun (b48 : Bool) =>
          .cond b48 (
            .call 15 #[.pointer r3.1] (.tup [.I, .I, .B, .I]) fun (r49 : Int × Int × Bool × Int × Unit) =>
            .bind 2 [] (
              .cond (!decide (r49.2.2.2.1 = (0 : Int))) (
                .ret (.bool false)) <|
              .cond (!r49.2.2.1 == decide ((0 : Int) < (↑r47.2.1.n : Int))) (
                .ret (.bool false)) <|
              .cond r49.2.2.1 (
                .need ((0 : Int) ≤ (0 : Int) ∧ (0 : Int) < (↑r47.2.1.n : Int)) <|
                .nil r47.2.1.a fun (a50 : Addr) =>
                .ld (a50.add (Int.toNat (0 : Int) * 1)) .I fun (i51 : Int) =>
                .cond (!decide (r49.1 = i51)) (
                  .ret (.bool false)) <|
                .need ((0 : Int) ≤ (0 : Int) ∧ (0 : Int) < (↑r47.2.2.1.n : Int)) <|
                .nil r47.2.2.1.a fun (a52 : Addr) =>
                .ld (a52.add (Int.toNat (0 : Int) * 1)) .I fun (i53 : Int) =>
                .cond (!decide (r49.2.1 = i53)) (
                  .ret (.bool false)) <|
                .jmp 2 []) <|
              .jmp 2 []) fun (u54 : Unit) =>
            .need ((0 : Int) ≤ imn (1 : Int) (↑r47.2.1.n : Int) ∧ imn (1 : Int) (↑r47.2.1.n : Int) ≤ (↑r47.2.1.n : Int)) <|
            .need ((0 : Int) ≤ imn (1 : Int) (↑r47.2.2.1.n : Int) ∧ imn (1 : Int) (↑r47.2.2.1.n : Int) ≤ (↑r47.2.2.1.n : Int)) <|
            .jmp 1 [.slice (slB r47.2.1.a (imn (1 : Int) (↑r47.2.1.n : Int)).toNat 1 r47.2.1.c) (r47.2.1.n - (imn (1 : Int) (↑r47.2.1.n : Int)).toNat) (r47.2.1.c - (imn (1 : Int) (↑r47.2.1.n : Int)).toNat), .slice (slB r47.2.2.1.a (imn (1 : Int) (↑r47.2.2.1.n : Int)).toNat 1 r47.2.2.1.c) (r47.2.2.1.n - (imn (1 : Int) (↑r47.2.2.1.n : Int)).toNat) (r47.2.2.1.c - (imn (1 : Int) (↑r47.2.2.1.n : Int)).toNat)]) <|
          .jmp 1 [.slice r47.2.1.a r47.2.1.n r47.2.1.c, .slice r47.2.2.1.a r47.2.2.1.n r47.2.2.1.c]) fun (r55 : Sl × Sl × Unit) =>
        .call 30 #[.pointer r5.1] .B fun (b56 : Bool) =>
        .cond b56 (
          .ret (.bool false)) <|
        .call 10 #[.pointer r3.1] .L fun (l57 : Sl) =>
        .cond (!decide ((↑l57.n : Int) = IntKind.i64.wrap (IntKind.i64.wrap ((↑r31.1.n : Int) + (↑r47.1.n : Int)) + (↑r55.1.n : Int)))) (
          .ret (.bool false)) <|
        .jmp 0 [.slice r31.1.a r31.1.n r31.1.c, .slice r47.1.a r47.1.n r47.1.c, .slice r55.1.a r55.1.n r55.1.c, .slice r55.2.1.a r55.2.1.n r55.2.1.c, .int .i64 (IntKind.i64.wrap (r10.2.2.2.2.1 + (1 : Int)))]) <|
      .call 31 #[.pointer r3.1, .pointer r5.1, .int .i64 (IntKind.i64.wrap (IntKind.i64.wrap ((↑r10.1.n : Int) + (↑r10.2.1.n : Int)) + (↑r10.2.2.1.n : Int))), .slice r10.2.1.a r10.2.1.n r10.2.1.c] .B fun (b58 : Bool) =>
      .cond b58 (
        .call 18 #[] .B fun (b59 : Bool) =>
        .ret (.bool b59)) <|
      .ret (.bool false)) <|
    .call 31 #[.pointer r3.1, .pointer r5.1, .int .i64 (IntKind.i64.wrap (IntKind.i64.wrap ((↑r10.1.n : Int) + (↑r10.2.1.n : Int)) + (↑r10.2.2.1.n : Int))), .slice r10.2.1.a r10.2.1.n r10.2.1.c] .B fun (b60 : Bool) =>
    .cond b60 (
      .call 18 #[] .B fun (b61 : Bool) =>
      .ret (.bool b61)) <|
    .ret (.bool false)
theorem aqueductlaw15_DrvqBoth.eq (x0 : Int) (x1 : Sl) : trOf Try.prog CC (.seq .o (.seq .o (.seq .o (.seq .o (.seq .o (.seq .o (.seq .o (.seq .o (.seq .o (.seq (.seq .o (.seq (.loop [11, 12, 13, 14, 15] [.sc .slc, .sc .slc, .sc .slc, .sc .slc, .sc (.int .i64)] (.seq .o (.seq (.seq (.seq .o (.seq .o (.seq .o (.join [11] [.sc .slc] .o (.join [11, 12] [.sc .slc, .sc .slc] .o (.join [12, 13, 14] [.sc .slc, .sc .slc, .sc .slc] .o (.join [13, 14] [.sc .slc, .sc .slc] (.seq .o (.seq (.seq .o (.join [] [] .o .o)) .o)) .o))))))) .o) .o))) .o)) .o)))))))))) Try.f6 [.int .i64 x0, .slice x1.a x1.n x1.c] = aqueductlaw15_DrvqBoth.T x0 x1 := by kernel_rfl
theorem aqueductlaw15_DrvqBoth.calls (x0 : Int) (x1 : Sl) {R : Ending → World → Prop} {w : World} (h : (aqueductlaw15_DrvqBoth.T x0 x1).wp Try.prog R Conts.none w) : Calls Try.prog 6 #[.int .i64 x0, .slice x1.a x1.n x1.c] w R :=
  calls_of_tr (args := [.int .i64 x0, .slice x1.a x1.n x1.c]) hCC hMO Try.func6 ((aqueductlaw15_DrvqBoth.eq x0 x1).symm ▸ h)

/-- aqueduct/aqueductlaw15.laid -/
def aqueductlaw15_laid.T (x0 : Int × Int × Int × Int × Int × Sl × PUnit) : Tr :=
  .new 26 [.int .i64 x0.1, .int .i64 x0.2.1, .int .i64 x0.2.2.1, .int .i64 x0.2.2.2.1, .int .i64 x0.2.2.2.2.1, .slice x0.2.2.2.2.2.1.a x0.2.2.2.2.2.1.n x0.2.2.2.2.2.1.c] fun (a0 : Addr) =>
  .ld (a0.add 0) .I fun (i1 : Int) =>
  .call 22 #[.int .i64 (imx (64 : Int) (imn i1 (2048 : Int)))] (.tup [.P, .I]) fun (r2 : Option Addr × Int × Unit) =>
  .call 32 #[.int .i64 (imx (64 : Int) (imn i1 (2048 : Int)))] (.tup [.P, .I]) fun (r3 : Option Addr × Int × Unit) =>
  .cond (Option.isNone r2.1) (
    .ret (.tuple #[.pointer none, .pointer none, .pointer none, .bool false])) <|
  .cond (Option.isNone r3.1) (
    .ret (.tuple #[.pointer none, .pointer none, .pointer none, .bool false])) <|
  .cond (!decide (r2.2.1 = (0 : Int))) (
    .ret (.tuple #[.pointer none, .pointer none, .pointer none, .bool false])) <|
  .cond (!decide (r3.2.1 = (0 : Int))) (
    .ret (.tuple #[.pointer none, .pointer none, .pointer none, .bool false])) <|
  .sem (Go.Instr.makeSlice (85) (.int .i64 30) (.int .i64 30)) .L fun (l4 : Sl) =>
  .sem (Go.convert (85) (9) (.slice l4.a l4.n l4.c)) .S fun (s5 : ByteArray) =>
  .need (s5.size + (ByteArray.mk #[(119 : UInt8), (104 : UInt8), (97 : UInt8), (116 : UInt8), (32 : UInt8), (115 : UInt8), (116 : UInt8), (111 : UInt8), (111 : UInt8), (100 : UInt8), (32 : UInt8), (116 : UInt8), (104 : UInt8), (101 : UInt8), (114 : UInt8), (101 : UInt8)]).size ≤ 9223372036854775807) <|
  .call 16 #[.pointer r2.1, .int .i64 0, .string (s5 ++ ByteArray.mk #[(119 : UInt8), (104 : UInt8), (97 : UInt8), (116 : UInt8), (32 : UInt8), (115 : UInt8), (116 : UInt8), (111 : UInt8), (111 : UInt8), (100 : UInt8), (32 : UInt8), (116 : UInt8), (104 : UInt8), (101 : UInt8), (114 : UInt8), (101 : UInt8)])] .I fun (i6 : Int) =>
  .cond (!decide (i6 = (0 : Int))) (
    .ret (.tuple #[.pointer none, .pointer none, .pointer none, .bool false])) <|
  .call 33 #[.pointer r3.1, .int .i64 0, .string (s5 ++ ByteArray.mk #[(119 : UInt8), (104 : UInt8), (97 : UInt8), (116 : UInt8), (32 : UInt8), (115 : UInt8), (116 : UInt8), (111 : UInt8), (111 : UInt8), (100 : UInt8), (32 : UInt8), (116 : UInt8), (104 : UInt8), (101 : UInt8), (114 : UInt8), (101 : UInt8)])] .I fun (i7 : Int) =>
  .cond (!decide (i7 = (0 : Int))) (
    .ret (.tuple #[.pointer none, .pointer none, .pointer none, .bool false])) <|
  .ld (a0.add 1) (.agg [.I, .I, .I, .I]) fun (r8 : Int × Int × Int × Int × Unit) =>
  .call 23 #[.pointer r2.1, .agg #[.int .i64 r8.1, .int .i64 r8.2.1, .int .i64 r8.2.2.1, .int .i64 r8.2.2.2.1]] (.tup [.P, .I]) fun (r9 : Option Addr × Int × Unit) =>
  .ld (a0.add 1) (.agg [.I, .I, .I, .I]) fun (r10 : Int × Int × Int × Int × Unit) =>
  .call 34 #[.pointer r3.1, .agg #[.int .i64 r10.1, .int .i64 r10.2.1, .int .i64 r10.2.2.1, .int .i64 r10.2.2.2.1]] (.tup [.P, .I]) fun (r11 : Option Addr × Int × Unit) =>
  .tick <|
  .cond (decide (r9.2.1 = r11.2.1)) (
    .cond (Option.isNone r9.1 == Option.isNone r11.1) (
      .nil r3.1 fun (a12 : Addr) =>
      .ld (a12.add 0) .S fun (s13 : ByteArray) =>
      .calln 8 #[.pointer r2.1] .S fun (s14 : ByteArray) =>
      .keep [(a12.add 0, [.string s13])] <|
      .ret (.tuple #[.pointer r2.1, .pointer r9.1, .pointer r11.1, .bool (decide (s14 = s13))])) <|
    .ret (.tuple #[.pointer r2.1, .pointer r9.1, .pointer r11.1, .bool false])) <|
  .ret (.tuple #[.pointer r2.1, .pointer r9.1, .pointer r11.1, .bool false])
theorem aqueductlaw15_laid.eq (x0 : Int × Int × Int × Int × Int × Sl × PUnit) : trOf Try.prog CC (.o) Try.f7 [.agg #[.int .i64 x0.fst, .int .i64 x0.snd.fst, .int .i64 x0.snd.snd.fst, .int .i64 x0.snd.snd.snd.fst, .int .i64 x0.snd.snd.snd.snd.fst, .slice x0.snd.snd.snd.snd.snd.fst.a x0.snd.snd.snd.snd.snd.fst.n x0.snd.snd.snd.snd.snd.fst.c]] = aqueductlaw15_laid.T x0 := by kernel_rfl
theorem aqueductlaw15_laid.calls (x0 : Int × Int × Int × Int × Int × Sl × PUnit) {R : Ending → World → Prop} {w : World} (h : (aqueductlaw15_laid.T x0).wp Try.prog R Conts.none w) : Calls Try.prog 7 #[.agg #[.int .i64 x0.fst, .int .i64 x0.snd.fst, .int .i64 x0.snd.snd.fst, .int .i64 x0.snd.snd.snd.fst, .int .i64 x0.snd.snd.snd.snd.fst, .slice x0.snd.snd.snd.snd.snd.fst.a x0.snd.snd.snd.snd.snd.fst.n x0.snd.snd.snd.snd.snd.fst.c]] w R :=
  calls_of_tr (args := [.agg #[.int .i64 x0.fst, .int .i64 x0.snd.fst, .int .i64 x0.snd.snd.fst, .int .i64 x0.snd.snd.snd.fst, .int .i64 x0.snd.snd.snd.snd.fst, .slice x0.snd.snd.snd.snd.snd.fst.a x0.snd.snd.snd.snd.snd.fst.n x0.snd.snd.snd.snd.snd.fst.c]]) hCC hMO Try.func7 ((aqueductlaw15_laid.eq x0).symm ▸ h)

/-- aqueduct/aqueductlaw15.parts -/
def aqueductlaw15_parts.T (x0 : Int × Int × Int × Int × Sl × ByteArray × Int × Bool × Int × Bool × PUnit) : Tr :=
  .new 36 [.int .i64 x0.1, .int .i64 x0.2.1, .int .i64 x0.2.2.1, .int .i64 x0.2.2.2.1, .slice x0.2.2.2.2.1.a x0.2.2.2.2.1.n x0.2.2.2.2.1.c, .string x0.2.2.2.2.2.1, .int .i64 x0.2.2.2.2.2.2.1, .bool x0.2.2.2.2.2.2.2.1, .int .i64 x0.2.2.2.2.2.2.2.2.1, .bool x0.2.2.2.2.2.2.2.2.2.1] fun (a0 : Addr) =>
  .ld (a0.add 4) .L fun (l1 : Sl) =>
  .ld (a0.add 4) .L fun (l2 : Sl) =>
  .need ((0 : Int) ≤ imn (↑l2.n : Int) (70 : Int) ∧ imn (↑l2.n : Int) (70 : Int) ≤ (↑l1.c : Int)) <|
  .ret (.slice (slB l1.a 0 3 l1.c) ((imn (↑l2.n : Int) (70 : Int)).toNat - 0) (l1.c - 0))
theorem aqueductlaw15_parts.eq (x0 : Int × Int × Int × Int × Sl × ByteArray × Int × Bool × Int × Bool × PUnit) : trOf Try.prog CC (.o) Try.f13 [.agg #[.int .i64 x0.fst, .int .i64 x0.snd.fst, .int .i64 x0.snd.snd.fst, .int .i64 x0.snd.snd.snd.fst, .slice x0.snd.snd.snd.snd.fst.a x0.snd.snd.snd.snd.fst.n x0.snd.snd.snd.snd.fst.c, .string x0.snd.snd.snd.snd.snd.fst, .int .i64 x0.snd.snd.snd.snd.snd.snd.fst, .bool x0.snd.snd.snd.snd.snd.snd.snd.fst, .int .i64 x0.snd.snd.snd.snd.snd.snd.snd.snd.fst, .bool x0.snd.snd.snd.snd.snd.snd.snd.snd.snd.fst]] = aqueductlaw15_parts.T x0 := by kernel_rfl
theorem aqueductlaw15_parts.calls (x0 : Int × Int × Int × Int × Sl × ByteArray × Int × Bool × Int × Bool × PUnit) {R : Ending → World → Prop} {w : World} (h : (aqueductlaw15_parts.T x0).wp Try.prog R Conts.none w) : Calls Try.prog 13 #[.agg #[.int .i64 x0.fst, .int .i64 x0.snd.fst, .int .i64 x0.snd.snd.fst, .int .i64 x0.snd.snd.snd.fst, .slice x0.snd.snd.snd.snd.fst.a x0.snd.snd.snd.snd.fst.n x0.snd.snd.snd.snd.fst.c, .string x0.snd.snd.snd.snd.snd.fst, .int .i64 x0.snd.snd.snd.snd.snd.snd.fst, .bool x0.snd.snd.snd.snd.snd.snd.snd.fst, .int .i64 x0.snd.snd.snd.snd.snd.snd.snd.snd.fst, .bool x0.snd.snd.snd.snd.snd.snd.snd.snd.snd.fst]] w R :=
  calls_of_tr (args := [.agg #[.int .i64 x0.fst, .int .i64 x0.snd.fst, .int .i64 x0.snd.snd.fst, .int .i64 x0.snd.snd.snd.fst, .slice x0.snd.snd.snd.snd.fst.a x0.snd.snd.snd.snd.fst.n x0.snd.snd.snd.snd.fst.c, .string x0.snd.snd.snd.snd.snd.fst, .int .i64 x0.snd.snd.snd.snd.snd.snd.fst, .bool x0.snd.snd.snd.snd.snd.snd.snd.fst, .int .i64 x0.snd.snd.snd.snd.snd.snd.snd.snd.fst, .bool x0.snd.snd.snd.snd.snd.snd.snd.snd.snd.fst]]) hCC hMO Try.func13 ((aqueductlaw15_parts.eq x0).symm ▸ h)

/-- aqueduct/aqueductlaw15.used -/
def aqueductlaw15_used.T (x0 : Int × Int × Int × Int × Sl × ByteArray × Int × Bool × Int × Bool × PUnit) (x1 : Bool) : Tr :=
  .new 36 [.int .i64 x0.1, .int .i64 x0.2.1, .int .i64 x0.2.2.1, .int .i64 x0.2.2.2.1, .slice x0.2.2.2.2.1.a x0.2.2.2.2.1.n x0.2.2.2.2.1.c, .string x0.2.2.2.2.2.1, .int .i64 x0.2.2.2.2.2.2.1, .bool x0.2.2.2.2.2.2.2.1, .int .i64 x0.2.2.2.2.2.2.2.2.1, .bool x0.2.2.2.2.2.2.2.2.2.1] fun (a0 : Addr) =>
  .tick <|
  .ld (a0.add 3) .I fun (i1 : Int) =>
  .ld (a0.add 2) .I fun (i2 : Int) =>
  .ld (a0.add 9) .B fun (b3 : Bool) =>
  .calln 48 #[.int .i64 0, .bool (x1 == b3), .bool true] .I fun (i4 : Int) =>
  .keep [(a0.add 2, [.int .i64 i2]), (a0.add 3, [.int .i64 i1])] <|
  .calln 47 #[.agg #[.int .u64 0, .int .u32 (IntKind.u32.wrap i1), .int .i64 (band IntKind.i64 i2 (65535 : Int)), .int .i64 i4]] (.tup [.S, .I]) fun (r5 : ByteArray × Int × Unit) =>
  .need ((0 : Int) ≤ (8 : Int) ∧ (8 : Int) ≤ (↑(ByteArray.size r5.1) : Int)) <|
  .ret (.string (ByteArray.extract r5.1 (Int.toNat (8 : Int)) (ByteArray.size r5.1)))
theorem aqueductlaw15_used.eq (x0 : Int × Int × Int × Int × Sl × ByteArray × Int × Bool × Int × Bool × PUnit) (x1 : Bool) : trOf Try.prog CC (.o) Try.f17 [.agg #[.int .i64 x0.fst, .int .i64 x0.snd.fst, .int .i64 x0.snd.snd.fst, .int .i64 x0.snd.snd.snd.fst, .slice x0.snd.snd.snd.snd.fst.a x0.snd.snd.snd.snd.fst.n x0.snd.snd.snd.snd.fst.c, .string x0.snd.snd.snd.snd.snd.fst, .int .i64 x0.snd.snd.snd.snd.snd.snd.fst, .bool x0.snd.snd.snd.snd.snd.snd.snd.fst, .int .i64 x0.snd.snd.snd.snd.snd.snd.snd.snd.fst, .bool x0.snd.snd.snd.snd.snd.snd.snd.snd.snd.fst], .bool x1] = aqueductlaw15_used.T x0 x1 := by kernel_rfl
theorem aqueductlaw15_used.calls (x0 : Int × Int × Int × Int × Sl × ByteArray × Int × Bool × Int × Bool × PUnit) (x1 : Bool) {R : Ending → World → Prop} {w : World} (h : (aqueductlaw15_used.T x0 x1).wp Try.prog R Conts.none w) : Calls Try.prog 17 #[.agg #[.int .i64 x0.fst, .int .i64 x0.snd.fst, .int .i64 x0.snd.snd.fst, .int .i64 x0.snd.snd.snd.fst, .slice x0.snd.snd.snd.snd.fst.a x0.snd.snd.snd.snd.fst.n x0.snd.snd.snd.snd.fst.c, .string x0.snd.snd.snd.snd.snd.fst, .int .i64 x0.snd.snd.snd.snd.snd.snd.fst, .bool x0.snd.snd.snd.snd.snd.snd.snd.fst, .int .i64 x0.snd.snd.snd.snd.snd.snd.snd.snd.fst, .bool x0.snd.snd.snd.snd.snd.snd.snd.snd.snd.fst], .bool x1] w R :=
  calls_of_tr (args := [.agg #[.int .i64 x0.fst, .int .i64 x0.snd.fst, .int .i64 x0.snd.snd.fst, .int .i64 x0.snd.snd.snd.fst, .slice x0.snd.snd.snd.snd.fst.a x0.snd.snd.snd.snd.fst.n x0.snd.snd.snd.snd.fst.c, .string x0.snd.snd.snd.snd.snd.fst, .int .i64 x0.snd.snd.snd.snd.snd.snd.fst, .bool x0.snd.snd.snd.snd.snd.snd.snd.fst, .int .i64 x0.snd.snd.snd.snd.snd.snd.snd.snd.fst, .bool x0.snd.snd.snd.snd.snd.snd.snd.snd.snd.fst], .bool x1]) hCC hMO Try.func17 ((aqueductlaw15_used.eq x0 x1).symm ▸ h)

/-- aqueduct/aqueductlaw15.fixed -/
def aqueductlaw15_fixed.T  : Tr :=
  .new 23 [.int .i64 0, .int .i64 0, .int .i64 0, .int .i64 0] fun (a0 : Addr) =>
  .st a0 [.int .i64 0, .int .i64 4, .int .i64 64, .int .i64 68] <|
  .ld a0 (.agg [.I, .I, .I, .I]) fun (r1 : Int × Int × Int × Int × Unit) =>
  .call 7 #[.agg #[.int .i64 256, .int .i64 r1.1, .int .i64 r1.2.1, .int .i64 r1.2.2.1, .int .i64 r1.2.2.2.1, .slice none (0) (0)]] (.tup [.P, .P, .P, .B]) fun (r2 : Option Addr × Option Addr × Option Addr × Bool × Unit) =>
  .cond (!r2.2.2.2.1) (
    .ret (.bool false)) <|
  .cond (Option.isNone r2.2.1) (
    .ret (.bool false)) <|
  .new 56 [.int .i64 128, .int .i64 5, .bool false, .int .i64 140, .int .i64 6, .bool true] fun (a3 : Addr) =>
  .call 12 #[.pointer r2.2.1, .slice (some a3) (2) (2)] (.tup [.I, .I]) fun (r4 : Int × Int × Unit) =>
  .call 9 #[.pointer r2.2.1] .I fun (i5 : Int) =>
  .new 56 [.int .i64 128, .int .i64 5, .bool false] fun (a6 : Addr) =>
  .sem (Go.Builtin.append_ #[32, 32] (32) #[.slice (some a6) (1) (1), .slice (some a3) (2) (2)]) .L fun (l7 : Sl) =>
  .call 12 #[.pointer r2.2.1, .slice l7.a l7.n l7.c] (.tup [.I, .I]) fun (r8 : Int × Int × Unit) =>
  .call 12 #[.pointer r2.2.1, .slice none (0) (0)] (.tup [.I, .I]) fun (r9 : Int × Int × Unit) =>
  .tick <|
  .need ((0 : Int) ≤ (1 : Int) ∧ (1 : Int) < (↑2 : Int)) <|
  .ld (a3.add (Int.toNat (1 : Int) * 3)) (.agg [.I, .I, .bool]) fun (r10 : Int × Int × Bool × Unit) =>
  .need ((0 : Int) ≤ (0 : Int) ∧ (0 : Int) < (↑2 : Int)) <|
  .ld (a3.add (Int.toNat (0 : Int) * 3)) (.agg [.I, .I, .bool]) fun (r11 : Int × Int × Bool × Unit) =>
  .new 56 [.int .i64 r10.1, .int .i64 r10.2.1, .bool r10.2.2.1, .int .i64 r11.1, .int .i64 r11.2.1, .bool r11.2.2.1] fun (a12 : Addr) =>
  .calln 12 #[.pointer r2.2.1, .slice (some a12) (2) (2)] (.tup [.I, .I]) fun (r13 : Int × Int × Unit) =>
  .call 15 #[.pointer r2.2.1] (.tup [.I, .I, .B, .I]) fun (r14 : Int × Int × Bool × Int × Unit) =>
  .call 42 #[.pointer r2.1, .int .i64 0, .int .i64 32] (.tup [.S, .I]) fun (r15 : ByteArray × Int × Unit) =>
  .call 16 #[.pointer r2.1, .int .i64 8, .string (ByteArray.mk #[(7 : UInt8), (0 : UInt8), (0 : UInt8), (0 : UInt8), (0 : UInt8), (0 : UInt8), (128 : UInt8), (128 : UInt8)])] .I fun (i16 : Int) =>
  .call 15 #[.pointer r2.2.1] (.tup [.I, .I, .B, .I]) fun (r17 : Int × Int × Bool × Int × Unit) =>
  .call 23 #[.pointer r2.1, .agg #[.int .i64 0, .int .i64 0, .int .i64 0, .int .i64 0]] (.tup [.P, .I]) fun (r18 : Option Addr × Int × Unit) =>
  .cond (decide (r4.1 = (0 : Int))) (
    .cond (decide (r4.2.1 = (0 : Int))) (
      .cond (decide (i5 = (2 : Int))) (
        .cond (decide (r8.2.1 = (151 : Int))) (
          .cond (decide (r9.2.1 = (150 : Int))) (
            .cond (decide (r13.2.1 = (150 : Int))) (
              .cond (!r14.2.2.1) (
                .cond (decide (r14.2.2.2.1 = (0 : Int))) (
                  .cond (decide (r15.2.1 = (0 : Int))) (
                    .cond (decide (r15.1 = ByteArray.mk #[(128 : UInt8), (0 : UInt8), (0 : UInt8), (0 : UInt8), (0 : UInt8), (0 : UInt8), (0 : UInt8), (0 : UInt8), (5 : UInt8), (0 : UInt8), (0 : UInt8), (0 : UInt8), (0 : UInt8), (0 : UInt8), (129 : UInt8), (0 : UInt8), (140 : UInt8), (0 : UInt8), (0 : UInt8), (0 : UInt8), (0 : UInt8), (0 : UInt8), (0 : UInt8), (0 : UInt8), (6 : UInt8), (0 : UInt8), (0 : UInt8), (0 : UInt8), (0 : UInt8), (0 : UInt8), (130 : UInt8), (0 : UInt8)])) (
                      .cond (decide (r17.1 = (0 : Int))) (
                        .cond (decide (r17.2.1 = (7 : Int))) (
                          .cond r17.2.2.1 (
                            .cond (decide (r17.2.2.2.1 = (0 : Int))) (
                              .call 9 #[.pointer r2.2.1] .I fun (i19 : Int) =>
                              .cond (decide (i19 = (4 : Int))) (
                                .call 10 #[.pointer r2.2.1] .L fun (l20 : Sl) =>
                                .cond (decide ((↑l20.n : Int) = (0 : Int))) (
                                  .cond (decide (r18.2.1 = (140 : Int))) (
                                    .call 11 #[.pointer r2.2.1] (.one (.agg [.I, .bool])) fun (r21 : Int × Bool × Unit) =>
                                    .sem (eqSem BinOp.eql (42) (Operand.tmp 177) (Operand.tmp 178) (.agg #[.int .i64 r21.1, .bool r21.2.1]) (.agg #[.int .i64 2, .bool true])) .B fun (b22 : Bool) =>
                                    .ret (.bool b22)) <|
                                  .ret (.bool false)) <|
                                .ret (.bool false)) <|
                              .ret (.bool false)) <|
                            .ret (.bool false)) <|
                          .ret (.bool false)) <|
                        .ret (.bool false)) <|
                      .ret (.bool false)) <|
                    .ret (.bool false)) <|
                  .ret (.bool false)) <|
                .ret (.bool false)) <|
              .ret (.bool false)) <|
            .ret (.bool false)) <|
          .ret (.bool false)) <|
        .ret (.bool false)) <|
      .ret (.bool false)) <|
    .ret (.bool false)) <|
  .ret (.bool false)
theorem aqueductlaw15_fixed.eq  : trOf Try.prog CC (.o) Try.f18 [] = aqueductlaw15_fixed.T := by kernel_rfl
theorem aqueductlaw15_fixed.calls  {R : Ending → World → Prop} {w : World} (h : (aqueductlaw15_fixed.T).wp Try.prog R Conts.none w) : Calls Try.prog 18 #[] w R :=
  calls_of_tr (args := []) hCC hMO Try.func18 ((aqueductlaw15_fixed.eq ).symm ▸ h)

/-- aqueduct/aqueductlaw15.drvqNew -/
def aqueductlaw15_drvqNew.T (x0 : Addr) : Tr :=
  .call 23 #[.pointer (some x0), .agg #[.int .i64 0, .int .i64 4, .int .i64 512, .int .i64 516]] (.tup [.P, .I]) fun (r0 : Option Addr × Int × Unit) =>
  .cond (!Option.isNone r0.1) (
    .cond (decide (r0.2.1 = (0 : Int))) (
      .call 9 #[.pointer r0.1] .I fun (i1 : Int) =>
      .ret (.bool (decide (i1 = (4 : Int))))) <|
    .ret (.bool false)) <|
  .ret (.bool false)
theorem aqueductlaw15_drvqNew.eq (x0 : Addr) : trOf Try.prog CC (.o) Try.f21 [.pointer (some x0)] = aqueductlaw15_drvqNew.T x0 := by kernel_rfl
theorem aqueductlaw15_drvqNew.calls (x0 : Addr) {R : Ending → World → Prop} {w : World} (h : (aqueductlaw15_drvqNew.T x0).wp Try.prog R Conts.none w) : Calls Try.prog 21 #[.pointer (some x0)] w R :=
  calls_of_tr (args := [.pointer (some x0)]) hCC hMO Try.func21 ((aqueductlaw15_drvqNew.eq x0).symm ▸ h)

/-- aqueduct/aqueductlaw15.inside -/
def aqueductlaw15_inside.T (x0 : Sl) : Tr :=
  .new 56 [] fun (a0 : Addr) =>
  .loop 0 [.L, .I] ((Sl.mk (some a0) 0 0, (0 : Int), ())) fun (r1 : Sl × Int × Unit) =>
    .cond (decide (r1.2.1 < (↑x0.n : Int))) (
      .cond (decide (r1.2.1 < (5 : Int))) (
        .tick <|
        .need ((0 : Int) ≤ r1.2.1 ∧ r1.2.1 < (↑x0.n : Int)) <|
        .nil x0.a fun (a2 : Addr) =>
        .ld ((a2.add (Int.toNat r1.2.1 * 3)).add 0) .I fun (i3 : Int) =>
        .need ((0 : Int) ≤ r1.2.1 ∧ r1.2.1 < (↑x0.n : Int)) <|
        .nil x0.a fun (a4 : Addr) =>
        .ld ((a4.add (Int.toNat r1.2.1 * 3)).add 1) .I fun (i5 : Int) =>
        .need ((0 : Int) ≤ r1.2.1 ∧ r1.2.1 < (↑x0.n : Int)) <|
        .nil x0.a fun (a6 : Addr) =>
        .ld ((a6.add (Int.toNat r1.2.1 * 3)).add 2) .B fun (b7 : Bool) =>
        .cond b7 (
          .new 56 [.int .i64 0, .int .i64 0, .bool false] fun (a8 : Addr) =>
          .keep [((a6.add (Int.toNat r1.2.1 * 3)).add 2, [.bool b7]), ((a4.add (Int.toNat r1.2.1 * 3)).add 1, [.int .i64 i5]), ((a2.add (Int.toNat r1.2.1 * 3)).add 0, [.int .i64 i3])] <|
          .st a8 [.int .i64 (IntKind.i64.wrap ((520 : Int) + band IntKind.i64 i3 (255 : Int))), .int .i64 (IntKind.i64.wrap ((1 : Int) + band IntKind.i64 i5 (127 : Int))), .bool true] <|
          .ld a8 (.agg [.I, .I, .bool]) fun (r9 : Int × Int × Bool × Unit) =>
          .new 56 [.int .i64 r9.1, .int .i64 r9.2.1, .bool r9.2.2.1] fun (a10 : Addr) =>
          .sem (Go.Builtin.append_ #[32, 32] (32) #[.slice r1.1.a r1.1.n r1.1.c, .slice (some a10) (1) (1)]) .L fun (l11 : Sl) =>
          .jmp 0 [.slice l11.a l11.n l11.c, .int .i64 (IntKind.i64.wrap (r1.2.1 + (1 : Int)))]) <|
        .cond (decide ((0 : Int) < r1.2.1)) (
          .need ((0 : Int) ≤ IntKind.i64.wrap (r1.2.1 - (1 : Int)) ∧ IntKind.i64.wrap (r1.2.1 - (1 : Int)) < (↑r1.1.n : Int)) <|
          .nil r1.1.a fun (a12 : Addr) =>
          .ld ((a12.add ((IntKind.i64.wrap (r1.2.1 - (1 : Int))).toNat * 3)).add 2) .B fun (b13 : Bool) =>
          .new 56 [.int .i64 0, .int .i64 0, .bool false] fun (a14 : Addr) =>
          .keep [((a12.add ((IntKind.i64.wrap (r1.2.1 - (1 : Int))).toNat * 3)).add 2, [.bool b13]), ((a6.add (Int.toNat r1.2.1 * 3)).add 2, [.bool b7]), ((a4.add (Int.toNat r1.2.1 * 3)).add 1, [.int .i64 i5]), ((a2.add (Int.toNat r1.2.1 * 3)).add 0, [.int .i64 i3])] <|
          .st a14 [.int .i64 (IntKind.i64.wrap ((520 : Int) + band IntKind.i64 i3 (255 : Int))), .int .i64 (IntKind.i64.wrap ((1 : Int) + band IntKind.i64 i5 (127 : Int))), .bool b13] <|
          .ld a14 (.agg [.I, .I, .bool]) fun (r15 : Int × Int × Bool × Unit) =>
          .new 56 [.int .i64 r15.1, .int .i64 r15.2.1, .bool r15.2.2.1] fun (a16 : Addr) =>
          .sem (Go.Builtin.append_ #[32, 32] (32) #[.slice r1.1.a r1.1.n r1.1.c, .slice (some a16) (1) (1)]) .L fun (l17 : Sl) =>
          .jmp 0 [.slice l17.a l17.n l17.c, .int .i64 (IntKind.i64.wrap (r1.2.1 + (1 : Int)))]) <|
        .new 56 [.int .i64 0, .int .i64 0, .bool false] fun (a18 : Addr) =>
        .keep [((a6.add (Int.toNat r1.2.1 * 3)).add 2, [.bool b7]), ((a4.add (Int.toNat r1.2.1 * 3)).add 1, [.int .i64 i5]), ((a2.add (Int.toNat r1.2.1 * 3)).add 0, [.int .i64 i3])] <|
        .st a18 [.int .i64 (IntKind.i64.wrap ((520 : Int) + band IntKind.i64 i3 (255 : Int))), .int .i64 (IntKind.i64.wrap ((1 : Int) + band IntKind.i64 i5 (127 : Int))), .bool false] <|
        .ld a18 (.agg [.I, .I, .bool]) fun (r19 : Int × Int × Bool × Unit) =>
        .new 56 [.int .i64 r19.1, .int .i64 r19.2.1, .bool r19.2.2.1] fun (a20 : Addr) =>
        .sem (Go.Builtin.append_ #[32, 32] (32) #[.slice r1.1.a r1.1.n r1.1.c, .slice (some a20) (1) (1)]) .L fun (l21 : Sl) =>
        .jmp 0 [.slice l21.a l21.n l21.c, .int .i64 (IntKind.i64.wrap (r1.2.1 + (1 : Int)))]) <|
      .ret (.slice r1.1.a r1.1.n r1.1.c)) <|
    .ret (.slice r1.1.a r1.1.n r1.1.c)
theorem aqueductlaw15_inside.eq (x0 : Sl) : trOf Try.prog CC (.seq .o (.seq .o (.seq (.seq .o (.seq (.loop [3, 4] [.sc .slc, .sc (.int .i64)] .o) .o)) .o))) Try.f25 [.slice x0.a x0.n x0.c] = aqueductlaw15_inside.T x0 := by kernel_rfl
theorem aqueductlaw15_inside.calls (x0 : Sl) {R : Ending → World → Prop} {w : World} (h : (aqueductlaw15_inside.T x0).wp Try.prog R Conts.none w) : Calls Try.prog 25 #[.slice x0.a x0.n x0.c] w R :=
  calls_of_tr (args := [.slice x0.a x0.n x0.c]) hCC hMO Try.func25 ((aqueductlaw15_inside.eq x0).symm ▸ h)

/-- aqueduct/aqueductlaw15.without -/
def aqueductlaw15_without.T (x0 : Sl) (x1 : Int) : Tr :=
  .new 74 [] fun (a0 : Addr) =>
  .loop 0 [.L, .I] ((Sl.mk (some a0) 0 0, (0 : Int), ())) fun (r1 : Sl × Int × Unit) =>
    .cond (decide (r1.2.1 < (↑x0.n : Int))) (
      .cond (!decide (r1.2.1 = x1)) (
        .need ((0 : Int) ≤ r1.2.1 ∧ r1.2.1 < (↑x0.n : Int)) <|
        .nil x0.a fun (a2 : Addr) =>
        .ld (a2.add (Int.toNat r1.2.1 * 3)) (.agg [.I, .I, .slc]) fun (r3 : Int × Int × Sl × Unit) =>
        .new 74 [.int .i64 r3.1, .int .i64 r3.2.1, .slice r3.2.2.1.a r3.2.2.1.n r3.2.2.1.c] fun (a4 : Addr) =>
        .sem (Go.Builtin.append_ #[69, 69] (69) #[.slice r1.1.a r1.1.n r1.1.c, .slice (some a4) (1) (1)]) .L fun (l5 : Sl) =>
        .jmp 0 [.slice l5.a l5.n l5.c, .int .i64 (IntKind.i64.wrap (r1.2.1 + (1 : Int)))]) <|
      .jmp 0 [.slice r1.1.a r1.1.n r1.1.c, .int .i64 (IntKind.i64.wrap (r1.2.1 + (1 : Int)))]) <|
    .ret (.slice r1.1.a r1.1.n r1.1.c)
theorem aqueductlaw15_without.eq (x0 : Sl) (x1 : Int) : trOf Try.prog CC (.seq .o (.seq .o (.seq (.seq .o (.seq (.loop [5, 6] [.sc .slc, .sc (.int .i64)] .o) .o)) .o))) Try.f29 [.slice x0.a x0.n x0.c, .int .i64 x1] = aqueductlaw15_without.T x0 x1 := by kernel_rfl
theorem aqueductlaw15_without.calls (x0 : Sl) (x1 : Int) {R : Ending → World → Prop} {w : World} (h : (aqueductlaw15_without.T x0 x1).wp Try.prog R Conts.none w) : Calls Try.prog 29 #[.slice x0.a x0.n x0.c, .int .i64 x1] w R :=
  calls_of_tr (args := [.slice x0.a x0.n x0.c, .int .i64 x1]) hCC hMO Try.func29 ((aqueductlaw15_without.eq x0 x1).symm ▸ h)

/-- aqueduct/aqueductlaw15.drained -/
def aqueductlaw15_drained.T (x0 : Addr) (x1 : Addr) (x2 : Int) (x3 : Sl) : Tr :=
  .loop 0 [.I] (((0 : Int), ())) fun (r0 : Int × Unit) =>
    .cond (decide (r0.1 < (↑x3.n : Int))) (
      .tick <|
      .need ((0 : Int) ≤ r0.1 ∧ r0.1 < (↑x3.n : Int)) <|
      .nil x3.a fun (a1 : Addr) =>
      .ld ((a1.add (Int.toNat r0.1 * 3)).add 0) .I fun (i2 : Int) =>
      .need ((0 : Int) ≤ r0.1 ∧ r0.1 < (↑x3.n : Int)) <|
      .nil x3.a fun (a3 : Addr) =>
      .ld ((a3.add (Int.toNat r0.1 * 3)).add 1) .I fun (i4 : Int) =>
      .calln 28 #[.pointer (some x1), .int .i64 i2, .int .i64 i4, .int .i64 1] .I fun (i5 : Int) =>
      .cond (!decide (i5 = (0 : Int))) (
        .ret (.bool false)) <|
      .jmp 0 [.int .i64 (IntKind.i64.wrap (r0.1 + (1 : Int)))]) <|
    .bind 0 [] (
      .loop 1 [.I] (((0 : Int), ())) fun (r6 : Int × Unit) =>
        .cond (decide (r6.1 < (200 : Int))) (
          .call 26 #[.pointer (some x1)] (.tup [(.agg [.I, .I, .slc]), .B, .I]) fun (r7 : (Int × Int × Sl × Unit) × Bool × Int × Unit) =>
          .new 74 [.int .i64 0, .int .i64 0, .slice none (0) (0)] fun (a8 : Addr) =>
          .st a8 [.int .i64 r7.1.1, .int .i64 r7.1.2.1, .slice r7.1.2.2.1.a r7.1.2.2.1.n r7.1.2.2.1.c] <|
          .cond (!decide (r7.2.2.1 = (0 : Int))) (
            .ret (.bool false)) <|
          .cond (!r7.2.1) (
            .jmp 0 []) <|
          .ld (a8.add 0) .I fun (i9 : Int) =>
          .ld (a8.add 1) .I fun (i10 : Int) =>
          .call 28 #[.pointer (some x1), .int .i64 i9, .int .i64 i10, .int .i64 0] .I fun (i11 : Int) =>
          .cond (!decide (i11 = (0 : Int))) (
            .ret (.bool false)) <|
          .jmp 1 [.int .i64 (IntKind.i64.wrap (r6.1 + (1 : Int)))]) <|
        .jmp 0 []) fun (u12 : Unit) =>
    .loop 0 [.I] (((0 : Int), ())) fun (r13 : Int × Unit) =>
      .cond (decide (r13.1 < x2)) (
        .call 15 #[.pointer (some x0)] (.tup [.I, .I, .B, .I]) fun (r14 : Int × Int × Bool × Int × Unit) =>
        .cond (!r14.2.2.1) (
          .ret (.bool false)) <|
        .cond (!decide (r14.2.2.2.1 = (0 : Int))) (
          .ret (.bool false)) <|
        .jmp 0 [.int .i64 (IntKind.i64.wrap (r13.1 + (1 : Int)))]) <|
      .call 15 #[.pointer (some x0)] (.tup [.I, .I, .B, .I]) fun (r15 : Int × Int × Bool × Int × Unit) =>
      .cond (!r15.2.2.1) (
        .cond (decide (r15.2.2.2.1 = (0 : Int))) (
          .call 10 #[.pointer (some x0)] .L fun (l16 : Sl) =>
          .cond (decide ((↑l16.n : Int) = (0 : Int))) (
            .call 58 #[.pointer (some x1)] .I fun (i17 : Int) =>
            .cond (decide (i17 = (0 : Int))) (
              .call 30 #[.pointer (some x1)] .B fun (b18 : Bool) =>
              .ret (.bool (!b18))) <|
            .ret (.bool false)) <|
          .ret (.bool false)) <|
        .ret (.bool false)) <|
      .ret (.bool false)
theorem aqueductlaw15_drained.eq (x0 : Addr) (x1 : Addr) (x2 : Int) (x3 : Sl) : trOf Try.prog CC (.seq .o (.seq (.seq .o (.seq (.loop [9] [.sc (.int .i64)] .o) .o)) (.join [] [] (.seq .o (.seq (.loop [10] [.sc (.int .i64)] .o) .o)) (.seq (.seq .o (.seq (.loop [14] [.sc (.int .i64)] .o) .o)) .o)))) Try.f31 [.pointer (some x0), .pointer (some x1), .int .i64 x2, .slice x3.a x3.n x3.c] = aqueductlaw15_drained.T x0 x1 x2 x3 := by kernel_rfl
theorem aqueductlaw15_drained.calls (x0 : Addr) (x1 : Addr) (x2 : Int) (x3 : Sl) {R : Ending → World → Prop} {w : World} (h : (aqueductlaw15_drained.T x0 x1 x2 x3).wp Try.prog R Conts.none w) : Calls Try.prog 31 #[.pointer (some x0), .pointer (some x1), .int .i64 x2, .slice x3.a x3.n x3.c] w R :=
  calls_of_tr (args := [.pointer (some x0), .pointer (some x1), .int .i64 x2, .slice x3.a x3.n x3.c]) hCC hMO Try.func31 ((aqueductlaw15_drained.eq x0 x1 x2 x3).symm ▸ h)

end Go.Proofs.Ythfcneahnldgnaa
