/- Trees: printed by a program of this session's out of the loaded code; each is held against the code by the kernel. -/
import Derived.Test.YthfcneahnldgnaaTrees
import Derived.Test.YthfcneahnldgnaaProg
import Derived.KernelRfl
namespace Go.Proofs.Ythfcneahnldgnaa
open Go Vk
set_option linter.unusedVariables false

/-- aqueduct/aqueductlaw15.DrvqRefuses -/
def aqueductlaw15_DrvqRefuses.T (x0 : Int × Int × Int × Int × Int × Sl × PUnit) : Tr :=
  .new 26 [.int .i64 x0.1, .int .i64 x0.2.1, .int .i64 x0.2.2.1, .int .i64 x0.2.2.2.1, .int .i64 x0.2.2.2.2.1, .slice x0.2.2.2.2.2.1.a x0.2.2.2.2.2.1.n x0.2.2.2.2.2.1.c] fun (a0 : Addr) =>
  .ld a0 (.agg [.I, .I, .I, .I, .I, .slc]) fun (r1 : Int × Int × Int × Int × Int × Sl × Unit) =>
  .call 7 #[.agg #[.int .i64 r1.1, .int .i64 r1.2.1, .int .i64 r1.2.2.1, .int .i64 r1.2.2.2.1, .int .i64 r1.2.2.2.2.1, .slice r1.2.2.2.2.2.1.a r1.2.2.2.2.2.1.n r1.2.2.2.2.2.1.c]] (.tup [.P, .P, .P, .B]) fun (r2 : Option Addr × Option Addr × Option Addr × Bool × Unit) =>
  .cond (!r2.2.2.2.1) (
    .ret (.bool false)) <|
  .loop 0 [.I] (((0 : Int), ())) fun (r3 : Int × Unit) =>
    .cond (!Option.isNone r2.2.1) (
      .ld (a0.add 5) .L fun (l4 : Sl) =>
      .cond (decide (r3.1 < (↑l4.n : Int))) (
        .cond (decide (r3.1 < (80 : Int))) (
          .ld (a0.add 5) .L fun (l5 : Sl) =>
          .need ((0 : Int) ≤ r3.1 ∧ r3.1 < (↑l5.n : Int)) <|
          .nil l5.a fun (a6 : Addr) =>
          .ld (a6.add (Int.toNat r3.1 * 10)) (.agg [.I, .I, .I, .I, .slc, .str, .I, .bool, .I, .bool]) fun (r7 : Int × Int × Int × Int × Sl × ByteArray × Int × Bool × Int × Bool × Unit) =>
          .new 36 [.int .i64 0, .int .i64 0, .int .i64 0, .int .i64 0, .slice none (0) (0), .string (ByteArray.mk #[]), .int .i64 0, .bool false, .int .i64 0, .bool false] fun (a8 : Addr) =>
          .st a8 [.int .i64 r7.1, .int .i64 r7.2.1, .int .i64 r7.2.2.1, .int .i64 r7.2.2.2.1, .slice r7.2.2.2.2.1.a r7.2.2.2.2.1.n r7.2.2.2.2.1.c, .string r7.2.2.2.2.2.1, .int .i64 r7.2.2.2.2.2.2.1, .bool r7.2.2.2.2.2.2.2.1, .int .i64 r7.2.2.2.2.2.2.2.2.1, .bool r7.2.2.2.2.2.2.2.2.2.1] <|
          .call 8 #[.pointer r2.1] .S fun (s9 : ByteArray) =>
          .call 9 #[.pointer r2.2.1] .I fun (i10 : Int) =>
          .call 10 #[.pointer r2.2.1] .L fun (l11 : Sl) =>
          .call 11 #[.pointer r2.2.1] (.one (.agg [.I, .bool])) fun (r12 : Int × Bool × Unit) =>
          .new 42 [.int .i64 0, .bool false] fun (a13 : Addr) =>
          .st a13 [.int .i64 r12.1, .bool r12.2.1] <|
          .ld (a8.add 0) .I fun (i14 : Int) =>
          .cond (decide (i14 = (0 : Int))) (
            .ld a8 (.agg [.I, .I, .I, .I, .slc, .str, .I, .bool, .I, .bool]) fun (r15 : Int × Int × Int × Int × Sl × ByteArray × Int × Bool × Int × Bool × Unit) =>
            .call 13 #[.agg #[.int .i64 r15.1, .int .i64 r15.2.1, .int .i64 r15.2.2.1, .int .i64 r15.2.2.2.1, .slice r15.2.2.2.2.1.a r15.2.2.2.2.1.n r15.2.2.2.2.1.c, .string r15.2.2.2.2.2.1, .int .i64 r15.2.2.2.2.2.2.1, .bool r15.2.2.2.2.2.2.2.1, .int .i64 r15.2.2.2.2.2.2.2.2.1, .bool r15.2.2.2.2.2.2.2.2.2.1]] .L fun (l16 : Sl) =>
            .call 12 #[.pointer r2.2.1, .slice l16.a l16.n l16.c] (.tup [.I, .I]) fun (r17 : Int × Int × Unit) =>
            .bind 1 [] (
              .cond (!decide (r17.2.1 = (0 : Int))) (
                .call 8 #[.pointer r2.1] .S fun (s18 : ByteArray) =>
                .cond (!decide (s18 = s9)) (
                  .ret (.bool false)) <|
                .call 9 #[.pointer r2.2.1] .I fun (i19 : Int) =>
                .cond (!decide (i19 = i10)) (
                  .ret (.bool false)) <|
                .call 10 #[.pointer r2.2.1] .L fun (l20 : Sl) =>
                .call 14 #[.slice l20.a l20.n l20.c, .slice l11.a l11.n l11.c] .B fun (b21 : Bool) =>
                .cond (!b21) (
                  .ret (.bool false)) <|
                .cond (!decide (r17.1 = (0 : Int))) (
                  .ret (.bool false)) <|
                .jmp 1 []) <|
              .jmp 1 []) fun (u22 : Unit) =>
            .tick <|
            .cond (decide (r17.2.1 = (0 : Int))) (
              .ld (a8.add 4) .L fun (l23 : Sl) =>
              .calln 9 #[.pointer r2.2.1] .I fun (i24 : Int) =>
              .keep [(a8.add 4, [.slice l23.a l23.n l23.c])] <|
              .cond (!decide (i24 = IntKind.i64.wrap (i10 - (↑l23.n : Int)))) (
                .both (
                  .keep [(a8.add 4, [.slice l23.a l23.n l23.c])] <|
                  .both (
                    .keep [(a8.add 4, [.slice l23.a l23.n l23.c])] <|
                    .keep [(a8.add 4, [.slice l23.a l23.n l23.c])] <|
                    .keep [(a8.add 4, [.slice l23.a l23.n l23.c])] <|
                    .keep [(a8.add 4, [.slice l23.a l23.n l23.c])] <|
                    .keep [(a8.add 4, [.slice l23.a l23.n l23.c])] <|
                    .keep [(a8.add 4, [.slice l23.a l23.n l23.c])] <|
                    .ret (.bool false)) <|
                  .keep [(a8.add 4, [.slice l23.a l23.n l23.c])] <|
                  .both (
                    .keep [(a8.add 4, [.slice l23.a l23.n l23.c])] <|
                    .keep [(a8.add 4, [.slice l23.a l23.n l23.c])] <|
                    .keep [(a8.add 4, [.slice l23.a l23.n l23.c])] <|
                    .keep [(a8.add 4, [.slice l23.a l23.n l23.c])] <|
                    .keep [(a8.add 4, [.slice l23.a l23.n l23.c])] <|
                    .ret (.bool false)) <|
                  .keep [(a8.add 4, [.slice l23.a l23.n l23.c])] <|
                  .keep [(a8.add 4, [.slice l23.a l23.n l23.c])] <|
                  .keep [(a8.add 4, [.slice l23.a l23.n l23.c])] <|
                  .keep [(a8.add 4, [.slice l23.a l23.n l23.c])] <|
                  .keep [(a8.add 4, [.slice l23.a l23.n l23.c])] <|
                  .ret (.bool false)) <|
                .keep [(a8.add 4, [.slice l23.a l23.n l23.c])] <|
                .both (
                  .keep [(a8.add 4, [.slice l23.a l23.n l23.c])] <|
                  .both (
                    .keep [(a8.add 4, [.slice l23.a l23.n l23.c])] <|
                    .keep [(a8.add 4, [.slice l23.a l23.n l23.c])] <|
                    .keep [(a8.add 4, [.slice l23.a l23.n l23.c])] <|
                    .keep [(a8.add 4, [.slice l23.a l23.n l23.c])] <|
                    .keep [(a8.add 4, [.slice l23.a l23.n l23.c])] <|
                    .ret (.bool false)) <|
                  .keep [(a8.add 4, [.slice l23.a l23.n l23.c])] <|
                  .keep [(a8.add 4, [.slice l23.a l23.n l23.c])] <|
                  .keep [(a8.add 4, [.slice l23.a l23.n l23.c])] <|
                  .keep [(a8.add 4, [.slice l23.a l23.n l23.c])] <|
                  .keep [(a8.add 4, [.slice l23.a l23.n l23.c])] <|
                  .ret (.bool false)) <|
                .keep [(a8.add 4, [.slice l23.a l23.n l23.c])] <|
                .keep [(a8.add 4, [.slice l23.a l23.n l23.c])] <|
                .keep [(a8.add 4, [.slice l23.a l23.n l23.c])] <|
                .keep [(a8.add 4, [.slice l23.a l23.n l23.c])] <|
                .keep [(a8.add 4, [.slice l23.a l23.n l23.c])] <|
                .keep [(a8.add 4, [.slice l23.a l23.n l23.c])] <|
                .ret (.bool false)) <|
              .calln 10 #[.pointer r2.2.1] .L fun (l25 : Sl) =>
              .keep [(a8.add 4, [.slice l23.a l23.n l23.c])] <|
              .cond (!decide ((↑l25.n : Int) = IntKind.i64.wrap ((↑l11.n : Int) + (1 : Int)))) (
                .keep [(a8.add 4, [.slice l23.a l23.n l23.c])] <|
                .keep [(a8.add 4, [.slice l23.a l23.n l23.c])] <|
                .ret (.bool false)) <|
              .cond (decide (r17.1 < (0 : Int))) (
                .keep [(a8.add 4, [.slice l23.a l23.n l23.c])] <|
                .ret (.bool false)) <|
              .ld ((a0.add 1).add 1) .I fun (i26 : Int) =>
              .cond (decide (i26 ≤ r17.1)) (
                .ret (.bool false)) <|
              .jmp 0 [.int .i64 (IntKind.i64.wrap (r3.1 + (1 : Int)))]) <|
            .both (
              .both (
                .both (
                  .jmp 0 [.int .i64 (IntKind.i64.wrap (r3.1 + (1 : Int)))]) <|
                .both (
                  .jmp 0 [.int .i64 (IntKind.i64.wrap (r3.1 + (1 : Int)))]) <|
                .jmp 0 [.int .i64 (IntKind.i64.wrap (r3.1 + (1 : Int)))]) <|
              .both (
                .both (
                  .jmp 0 [.int .i64 (IntKind.i64.wrap (r3.1 + (1 : Int)))]) <|
                .jmp 0 [.int .i64 (IntKind.i64.wrap (r3.1 + (1 : Int)))]) <|
              .jmp 0 [.int .i64 (IntKind.i64.wrap (r3.1 + (1 : Int)))]) <|
            .both (
              .both (
                .both (
                  .jmp 0 [.int .i64 (IntKind.i64.wrap (r3.1 + (1 : Int)))]) <|
                .both (
                  .jmp 0 [.int .i64 (IntKind.i64.wrap (r3.1 + (1 : Int)))]) <|
                .jmp 0 [.int .i64 (IntKind.i64.wrap (r3.1 + (1 : Int)))]) <|
              .both (
                .both (
                  .jmp 0 [.int .i64 (IntKind.i64.wrap (r3.1 + (1 : Int)))]) <|
                .jmp 0 [.int .i64 (IntKind.i64.wrap (r3.1 + (1 : Int)))]) <|
              .jmp 0 [.int .i64 (IntKind.i64.wrap (r3.1 + (1 : Int)))]) <|
            .both (
              .both (
                .jmp 0 [.int .i64 (IntKind.i64.wrap (r3.1 + (1 : Int)))]) <|
              .both (
                .jmp 0 [.int .i64 (IntKind.i64.wrap (r3.1 + (1 : Int)))]) <|
              .jmp 0 [.int .i64 (IntKind.i64.wrap (r3.1 + (1 : Int)))]) <|
            .both (
              .both (
                .jmp 0 [.int .i64 (IntKind.i64.wrap (r3.1 + (1 : Int)))]) <|
              .jmp 0 [.int .i64 (IntKind.i64.wrap (r3.1 + (1 : Int)))]) <|
            .jmp 0 [.int .i64 (IntKind.i64.wrap (r3.1 + (1 : Int)))]) <|
          .cond (decide (i14 = (1 : Int))) (
            .call 15 #[.pointer r2.2.1] (.tup [.I, .I, .B, .I]) fun (r27 : Int × Int × Bool × Int × Unit) =>
            .loop 1 [.B, .I] ((false, (0 : Int), ())) fun (r28 : Bool × Int × Unit) =>
              .cond (decide (r28.2.1 < (↑l11.n : Int))) (
                .cond r28.1 (
                  .jmp 1 [.bool true, .int .i64 (IntKind.i64.wrap (r28.2.1 + (1 : Int)))]) <|
                .need ((0 : Int) ≤ r28.2.1 ∧ r28.2.1 < (↑l11.n : Int)) <|
                .nil l11.a fun (a29 : Addr) =>
                .ld (a29.add (Int.toNat r28.2.1 * 1)) .I fun (i30 : Int) =>
                .jmp 1 [.bool (decide (i30 = r27.1)), .int .i64 (IntKind.i64.wrap (r28.2.1 + (1 : Int)))]) <|
              .tick <|
              .cond (!r27.2.2.1 == r28.1) (
                .cond r27.2.2.1 (
                  .both (
                    .both (
                      .ret (.bool false)) <|
                    .both (
                      .ret (.bool false)) <|
                    .ret (.bool false)) <|
                  .both (
                    .both (
                      .ret (.bool false)) <|
                    .ret (.bool false)) <|
                  .ret (.bool false)) <|
                .cond r27.2.2.1 (
                  .cond (!decide (r27.2.2.2.1 = (0 : Int))) (
                    .both (
                      .both (
                        .ret (.bool false)) <|
                      .both (
                        .ret (.bool false)) <|
                      .ret (.bool false)) <|
                    .both (
                      .both (
                        .ret (.bool false)) <|
                      .ret (.bool false)) <|
                    .ret (.bool false)) <|
                  .calln 10 #[.pointer r2.2.1] .L fun (l31 : Sl) =>
                  .cond (!decide ((↑l31.n : Int) = IntKind.i64.wrap ((↑l11.n : Int) - (1 : Int)))) (
                    .ret (.bool false)) <|
                  .cond (!r27.2.2.1) (
                    .calln 10 #[.pointer r2.2.1] .L fun (l32 : Sl) =>
                    .calln 14 #[.slice l32.a l32.n l32.c, .slice l11.a l11.n l11.c] .B fun (b33 : Bool) =>
                    .cond (!b33) (
                      .ret (.bool false)) <|
                    .ld a13 (.agg [.I, .bool]) fun (r34 : Int × Bool × Unit) =>
                    .calln 11 #[.pointer r2.2.1] (.one (.agg [.I, .bool])) fun (r35 : Int × Bool × Unit) =>
                    .keep [(a13, [.int .i64 r34.1, .bool r34.2.1])] <|
                    .sem (eqSem BinOp.neq (42) (Operand.tmp 183) (Operand.tmp 184) (.agg #[.int .i64 r35.1, .bool r35.2.1]) (.agg #[.int .i64 r34.1, .bool r34.2.1])) .B fun (b36 : Bool) =>
                    .cond b36 (
                      .ret (.bool false)) <|
                    .calln 8 #[.pointer r2.1] .S fun (s37 : ByteArray) =>
                    .cond (!decide (s37 = s9)) (
                      .ret (.bool false)) <|
                    .jmp 0 [.int .i64 (IntKind.i64.wrap (r3.1 + (1 : Int)))]) <|
                  .calln 8 #[.pointer r2.1] .S fun (s38 : ByteArray) =>
                  .cond (!decide (s38 = s9)) (
                    .ret (.bool false)) <|
                  .jmp 0 [.int .i64 (IntKind.i64.wrap (r3.1 + (1 : Int)))]) <|
                .both (
                  .both (
                    .cond (!r27.2.2.1) (
                      .calln 10 #[.pointer r2.2.1] .L fun (l39 : Sl) =>
                      .calln 14 #[.slice l39.a l39.n l39.c, .slice l11.a l11.n l11.c] .B fun (b40 : Bool) =>
                      .cond (!b40) (
                        .ret (.bool false)) <|
                      .ld a13 (.agg [.I, .bool]) fun (r41 : Int × Bool × Unit) =>
                      .calln 11 #[.pointer r2.2.1] (.one (.agg [.I, .bool])) fun (r42 : Int × Bool × Unit) =>
                      .keep [(a13, [.int .i64 r41.1, .bool r41.2.1])] <|
                      .sem (eqSem BinOp.neq (42) (Operand.tmp 183) (Operand.tmp 184) (.agg #[.int .i64 r42.1, .bool r42.2.1]) (.agg #[.int .i64 r41.1, .bool r41.2.1])) .B fun (b43 : Bool) =>
                      .cond b43 (
                        .ret (.bool false)) <|
                      .calln 8 #[.pointer r2.1] .S fun (s44 : ByteArray) =>
                      .cond (!decide (s44 = s9)) (
                        .ret (.bool false)) <|
                      .jmp 0 [.int .i64 (IntKind.i64.wrap (r3.1 + (1 : Int)))]) <|
                    .calln 8 #[.pointer r2.1] .S fun (s45 : ByteArray) =>
                    .cond (!decide (s45 = s9)) (
                      .ret (.bool false)) <|
                    .jmp 0 [.int .i64 (IntKind.i64.wrap (r3.1 + (1 : Int)))]) <|
                  .both (
                    .cond (!r27.2.2.1) (
                      .calln 10 #[.pointer r2.2.1] .L fun (l46 : Sl) =>
                      .calln 14 #[.slice l46.a l46.n l46.c, .slice l11.a l11.n l11.c] .B fun (b47 : Bool) =>
                      .cond (!b47) (
                        .ret (.bool false)) <|
                      .ld a13 (.agg [.I, .bool]) fun (r48 : Int × Bool × Unit) =>
                      .calln 11 #[.pointer r2.2.1] (.one (.agg [.I, .bool])) fun (r49 : Int × Bool × Unit) =>
                      .keep [(a13, [.int .i64 r48.1, .bool r48.2.1])] <|
                      .sem (eqSem BinOp.neq (42) (Operand.tmp 183) (Operand.tmp 184) (.agg #[.int .i64 r49.1, .bool r49.2.1]) (.agg #[.int .i64 r48.1, .bool r48.2.1])) .B fun (b50 : Bool) =>
                      .cond b50 (
                        .ret (.bool false)) <|
                      .calln 8 #[.pointer r2.1] .S fun (s51 : ByteArray) =>
                      .cond (!decide (s51 = s9)) (
                        .ret (.bool false)) <|
                      .jmp 0 [.int .i64 (IntKind.i64.wrap (r3.1 + (1 : Int)))]) <|
                    .calln 8 #[.pointer r2.1] .S fun (s52 : ByteArray) =>
                    .cond (!decide (s52 = s9)) (
                      .ret (.bool false)) <|
                    .jmp 0 [.int .i64 (IntKind.i64.wrap (r3.1 + (1 : Int)))]) <|
                  .cond (!r27.2.2.1) (
                    .calln 10 #[.pointer r2.2.1] .L fun (l53 : Sl) =>
                    .calln 14 #[.slice l53.a l53.n l53.c, .slice l11.a l11.n l11.c] .B fun (b54 : Bool) =>
                    .cond (!b54) (
                      .ret (.bool false)) <|
                    .ld a13 (.agg [.I, .bool]) fun (r55 : Int × Bool × Unit) =>
                    .calln 11 #[.pointer r2.2.1] (.one (.agg [.I, .bool])) fun (r56 : Int × Bool × Unit) =>
                    .keep [(a13, [.int .i64 r55.1, .bool r55.2.1])] <|
                    .sem (eqSem BinOp.neq (42) (Operand.tmp 183) (Operand.tmp 184) (.agg #[.int .i64 r56.1, .bool r56.2.1]) (.agg #[.int .i64 r55.1, .bool r55.2.1])) .B fun (b57 : Bool) =>
                    .cond b57 (
                      .ret (.bool false)) <|
                    .calln 8 #[.pointer r2.1] .S fun (s58 : ByteArray) =>
                    .cond (!decide (s58 = s9)) (
                      .ret (.bool false)) <|
                    .jmp 0 [.int .i64 (IntKind.i64.wrap (r3.1 + (1 : Int)))]) <|
                  .calln 8 #[.pointer r2.1] .S fun (s59 : ByteArray) =>
                  .cond (!decide (s59 = s9)) (
                    .ret (.bool false)) <|
                  .jmp 0 [.int .i64 (IntKind.i64.wrap (r3.1 + (1 : Int)))]) <|
                .both (
                  .both (
                    .cond (!r27.2.2.1) (
                      .calln 10 #[.pointer r2.2.1] .L fun (l60 : Sl) =>
                      .calln 14 #[.slice l60.a l60.n l60.c, .slice l11.a l11.n l11.c] .B fun (b61 : Bool) =>
                      .cond (!b61) (
                        .ret (.bool false)) <|
                      .ld a13 (.agg [.I, .bool]) fun (r62 : Int × Bool × Unit) =>
                      .calln 11 #[.pointer r2.2.1] (.one (.agg [.I, .bool])) fun (r63 : Int × Bool × Unit) =>
                      .keep [(a13, [.int .i64 r62.1, .bool r62.2.1])] <|
                      .sem (eqSem BinOp.neq (42) (Operand.tmp 183) (Operand.tmp 184) (.agg #[.int .i64 r63.1, .bool r63.2.1]) (.agg #[.int .i64 r62.1, .bool r62.2.1])) .B fun (b64 : Bool) =>
                      .cond b64 (
                        .ret (.bool false)) <|
                      .calln 8 #[.pointer r2.1] .S fun (s65 : ByteArray) =>
                      .cond (!decide (s65 = s9)) (
                        .ret (.bool false)) <|
                      .jmp 0 [.int .i64 (IntKind.i64.wrap (r3.1 + (1 : Int)))]) <|
                    .calln 8 #[.pointer r2.1] .S fun (s66 : ByteArray) =>
                    .cond (!decide (s66 = s9)) (
                      .ret (.bool false)) <|
                    .jmp 0 [.int .i64 (IntKind.i64.wrap (r3.1 + (1 : Int)))]) <|
                  .cond (!r27.2.2.1) (
                    .calln 10 #[.pointer r2.2.1] .L fun (l67 : Sl) =>
                    .calln 14 #[.slice l67.a l67.n l67.c, .slice l11.a l11.n l11.c] .B fun (b68 : Bool) =>
                    .cond (!b68) (
                      .ret (.bool false)) <|
                    .ld a13 (.agg [.I, .bool]) fun (r69 : Int × Bool × Unit) =>
                    .calln 11 #[.pointer r2.2.1] (.one (.agg [.I, .bool])) fun (r70 : Int × Bool × Unit) =>
                    .keep [(a13, [.int .i64 r69.1, .bool r69.2.1])] <|
                    .sem (eqSem BinOp.neq (42) (Operand.tmp 183) (Operand.tmp 184) (.agg #[.int .i64 r70.1, .bool r70.2.1]) (.agg #[.int .i64 r69.1, .bool r69.2.1])) .B fun (b71 : Bool) =>
                    .cond b71 (
                      .ret (.bool false)) <|
                    .calln 8 #[.pointer r2.1] .S fun (s72 : ByteArray) =>
                    .cond (!decide (s72 = s9)) (
                      .ret (.bool false)) <|
                    .jmp 0 [.int .i64 (IntKind.i64.wrap (r3.1 + (1 : Int)))]) <|
                  .calln 8 #[.pointer r2.1] .S fun (s73 : ByteArray) =>
                  .cond (!decide (s73 = s9)) (
                    .ret (.bool false)) <|
                  .jmp 0 [.int .i64 (IntKind.i64.wrap (r3.1 + (1 : Int)))]) <|
                .cond (!r27.2.2.1) (
                  .calln 10 #[.pointer r2.2.1] .L fun (l74 : Sl) =>
                  .calln 14 #[.slice l74.a l74.n l74.c, .slice l11.a l11.n l11.c] .B fun (b75 : Bool) =>
                  .cond (!b75) (
                    .ret (.bool false)) <|
                  .ld a13 (.agg [.I, .bool]) fun (r76 : Int × Bool × Unit) =>
                  .calln 11 #[.pointer r2.2.1] (.one (.agg [.I, .bool])) fun (r77 : Int × Bool × Unit) =>
                  .keep [(a13, [.int .i64 r76.1, .bool r76.2.1])] <|
                  .sem (eqSem BinOp.neq (42) (Operand.tmp 183) (Operand.tmp 184) (.agg #[.int .i64 r77.1, .bool r77.2.1]) (.agg #[.int .i64 r76.1, .bool r76.2.1])) .B fun (b78 : Bool) =>
                  .cond b78 (
                    .ret (.bool false)) <|
                  .calln 8 #[.pointer r2.1] .S fun (s79 : ByteArray) =>
                  .cond (!decide (s79 = s9)) (
                    .ret (.bool false)) <|
                  .jmp 0 [.int .i64 (IntKind.i64.wrap (r3.1 + (1 : Int)))]) <|
                .calln 8 #[.pointer r2.1] .S fun (s80 : ByteArray) =>
                .cond (!decide (s80 = s9)) (
                  .ret (.bool false)) <|
                .jmp 0 [.int .i64 (IntKind.i64.wrap (r3.1 + (1 : Int)))]) <|
              .cond r27.2.2.1 (
                .cond (!decide (r27.2.2.2.1 = (0 : Int))) (
                  .both (
                    .both (
                      .ret (.bool false)) <|
                    .both (
                      .ret (.bool false)) <|
                    .ret (.bool false)) <|
                  .both (
                    .both (
                      .ret (.bool false)) <|
                    .ret (.bool false)) <|
                  .ret (.bool false)) <|
                .calln 10 #[.pointer r2.2.1] .L fun (l81 : Sl) =>
                .cond (!decide ((↑l81.n : Int) = IntKind.i64.wrap ((↑l11.n : Int) - (1 : Int)))) (
                  .ret (.bool false)) <|
                .cond (!r27.2.2.1) (
                  .calln 10 #[.pointer r2.2.1] .L fun (l82 : Sl) =>
                  .calln 14 #[.slice l82.a l82.n l82.c, .slice l11.a l11.n l11.c] .B fun (b83 : Bool) =>
                  .cond (!b83) (
                    .ret (.bool false)) <|
                  .ld a13 (.agg [.I, .bool]) fun (r84 : Int × Bool × Unit) =>
                  .calln 11 #[.pointer r2.2.1] (.one (.agg [.I, .bool])) fun (r85 : Int × Bool × Unit) =>
                  .keep [(a13, [.int .i64 r84.1, .bool r84.2.1])] <|
                  .sem (eqSem BinOp.neq (42) (Operand.tmp 183) (Operand.tmp 184) (.agg #[.int .i64 r85.1, .bool r85.2.1]) (.agg #[.int .i64 r84.1, .bool r84.2.1])) .B fun (b86 : Bool) =>
                  .cond b86 (
                    .ret (.bool false)) <|
                  .calln 8 #[.pointer r2.1] .S fun (s87 : ByteArray) =>
                  .cond (!decide (s87 = s9)) (
                    .ret (.bool false)) <|
                  .jmp 0 [.int .i64 (IntKind.i64.wrap (r3.1 + (1 : Int)))]) <|
                .calln 8 #[.pointer r2.1] .S fun (s88 : ByteArray) =>
                .cond (!decide (s88 = s9)) (
                  .ret (.bool false)) <|
                .jmp 0 [.int .i64 (IntKind.i64.wrap (r3.1 + (1 : Int)))]) <|
              .both (
                .both (
                  .cond (!r27.2.2.1) (
                    .calln 10 #[.pointer r2.2.1] .L fun (l89 : Sl) =>
                    .calln 14 #[.slice l89.a l89.n l89.c, .slice l11.a l11.n l11.c] .B fun (b90 : Bool) =>
                    .cond (!b90) (
                      .ret (.bool false)) <|
                    .ld a13 (.agg [.I, .bool]) fun (r91 : Int × Bool × Unit) =>
                    .calln 11 #[.pointer r2.2.1] (.one (.agg [.I, .bool])) fun (r92 : Int × Bool × Unit) =>
                    .keep [(a13, [.int .i64 r91.1, .bool r91.2.1])] <|
                    .sem (eqSem BinOp.neq (42) (Operand.tmp 183) (Operand.tmp 184) (.agg #[.int .i64 r92.1, .bool r92.2.1]) (.agg #[.int .i64 r91.1, .bool r91.2.1])) .B fun (b93 : Bool) =>
                    .cond b93 (
                      .ret (.bool false)) <|
                    .calln 8 #[.pointer r2.1] .S fun (s94 : ByteArray) =>
                    .cond (!decide (s94 = s9)) (
                      .ret (.bool false)) <|
                    .jmp 0 [.int .i64 (IntKind.i64.wrap (r3.1 + (1 : Int)))]) <|
                  .calln 8 #[.pointer r2.1] .S fun (s95 : ByteArray) =>
                  .cond (!decide (s95 = s9)) (
                    .ret (.bool false)) <|
                  .jmp 0 [.int .i64 (IntKind.i64.wrap (r3.1 + (1 : Int)))]) <|
                .both (
                  .cond (!r27.2.2.1) (
                    .calln 10 #[.pointer r2.2.1] .L fun (l96 : Sl) =>
                    .calln 14 #[.slice l96.a l96.n l96.c, .slice l11.a l11.n l11.c] .B fun (b97 : Bool) =>
                    .cond (!b97) (
                      .ret (.bool false)) <|
                    .ld a13 (.agg [.I, .bool]) fun (r98 : Int × Bool × Unit) =>
                    .calln 11 #[.pointer r2.2.1] (.one (.agg [.I, .bool])) fun (r99 : Int × Bool × Unit) =>
                    .keep [(a13, [.int .i64 r98.1, .bool r98.2.1])] <|
                    .sem (eqSem BinOp.neq (42) (Operand.tmp 183) (Operand.tmp 184) (.agg #[.int .i64 r99.1, .bool r99.2.1]) (.agg #[.int .i64 r98.1, .bool r98.2.1])) .B fun (b100 : Bool) =>
                    .cond b100 (
                      .ret (.bool false)) <|
                    .calln 8 #[.pointer r2.1] .S fun (s101 : ByteArray) =>
                    .cond (!decide (s101 = s9)) (
                      .ret (.bool false)) <|
                    .jmp 0 [.int .i64 (IntKind.i64.wrap (r3.1 + (1 : Int)))]) <|
                  .calln 8 #[.pointer r2.1] .S fun (s102 : ByteArray) =>
                  .cond (!decide (s102 = s9)) (
                    .ret (.bool false)) <|
                  .jmp 0 [.int .i64 (IntKind.i64.wrap (r3.1 + (1 : Int)))]) <|
                .cond (!r27.2.2.1) (
                  .calln 10 #[.pointer r2.2.1] .L fun (l103 : Sl) =>
                  .calln 14 #[.slice l103.a l103.n l103.c, .slice l11.a l11.n l11.c] .B fun (b104 : Bool) =>
                  .cond (!b104) (
                    .ret (.bool false)) <|
                  .ld a13 (.agg [.I, .bool]) fun (r105 : Int × Bool × Unit) =>
                  .calln 11 #[.pointer r2.2.1] (.one (.agg [.I, .bool])) fun (r106 : Int × Bool × Unit) =>
                  .keep [(a13, [.int .i64 r105.1, .bool r105.2.1])] <|
                  .sem (eqSem BinOp.neq (42) (Operand.tmp 183) (Operand.tmp 184) (.agg #[.int .i64 r106.1, .bool r106.2.1]) (.agg #[.int .i64 r105.1, .bool r105.2.1])) .B fun (b107 : Bool) =>
                  .cond b107 (
                    .ret (.bool false)) <|
                  .calln 8 #[.pointer r2.1] .S fun (s108 : ByteArray) =>
                  .cond (!decide (s108 = s9)) (
                    .ret (.bool false)) <|
                  .jmp 0 [.int .i64 (IntKind.i64.wrap (r3.1 + (1 : Int)))]) <|
                .calln 8 #[.pointer r2.1] .S fun (s109 : ByteArray) =>
                .cond (!decide (s109 = s9)) (
                  .ret (.bool false)) <|
                .jmp 0 [.int .i64 (IntKind.i64.wrap (r3.1 + (1 : Int)))]) <|
              .both (
                .both (
                  .cond (!r27.2.2.1) (
                    .calln 10 #[.pointer r2.2.1] .L fun (l110 : Sl) =>
                    .calln 14 #[.slice l110.a l110.n l110.c, .slice l11.a l11.n l11.c] .B fun (b111 : Bool) =>
                    .cond (!b111) (
                      .ret (.bool false)) <|
                    .ld a13 (.agg [.I, .bool]) fun (r112 : Int × Bool × Unit) =>
                    .calln 11 #[.pointer r2.2.1] (.one (.agg [.I, .bool])) fun (r113 : Int × Bool × Unit) =>
                    .keep [(a13, [.int .i64 r112.1, .bool r112.2.1])] <|
                    .sem (eqSem BinOp.neq (42) (Operand.tmp 183) (Operand.tmp 184) (.agg #[.int .i64 r113.1, .bool r113.2.1]) (.agg #[.int .i64 r112.1, .bool r112.2.1])) .B fun (b114 : Bool) =>
                    .cond b114 (
                      .ret (.bool false)) <|
                    .calln 8 #[.pointer r2.1] .S fun (s115 : ByteArray) =>
                    .cond (!decide (s115 = s9)) (
                      .ret (.bool false)) <|
                    .jmp 0 [.int .i64 (IntKind.i64.wrap (r3.1 + (1 : Int)))]) <|
                  .calln 8 #[.pointer r2.1] .S fun (s116 : ByteArray) =>
                  .cond (!decide (s116 = s9)) (
                    .ret (.bool false)) <|
                  .jmp 0 [.int .i64 (IntKind.i64.wrap (r3.1 + (1 : Int)))]) <|
                .cond (!r27.2.2.1) (
                  .calln 10 #[.pointer r2.2.1] .L fun (l117 : Sl) =>
                  .calln 14 #[.slice l117.a l117.n l117.c, .slice l11.a l11.n l11.c] .B fun (b118 : Bool) =>
                  .cond (!b118) (
                    .ret (.bool false)) <|
                  .ld a13 (.agg [.I, .bool]) fun (r119 : Int × Bool × Unit) =>
                  .calln 11 #[.pointer r2.2.1] (.one (.agg [.I, .bool])) fun (r120 : Int × Bool × Unit) =>
                  .keep [(a13, [.int .i64 r119.1, .bool r119.2.1])] <|
                  .sem (eqSem BinOp.neq (42) (Operand.tmp 183) (Operand.tmp 184) (.agg #[.int .i64 r120.1, .bool r120.2.1]) (.agg #[.int .i64 r119.1, .bool r119.2.1])) .B fun (b121 : Bool) =>
                  .cond b121 (
                    .ret (.bool false)) <|
                  .calln 8 #[.pointer r2.1] .S fun (s122 : ByteArray) =>
                  .cond (!decide (s122 = s9)) (
                    .ret (.bool false)) <|
                  .jmp 0 [.int .i64 (IntKind.i64.wrap (r3.1 + (1 : Int)))]) <|
                .calln 8 #[.pointer r2.1] .S fun (s123 : ByteArray) =>
                .cond (!decide (s123 = s9)) (
                  .ret (.bool false)) <|
                .jmp 0 [.int .i64 (IntKind.i64.wrap (r3.1 + (1 : Int)))]) <|
              .cond (!r27.2.2.1) (
                .calln 10 #[.pointer r2.2.1] .L fun (l124 : Sl) =>
                .calln 14 #[.slice l124.a l124.n l124.c, .slice l11.a l11.n l11.c] .B fun (b125 : Bool) =>
                .cond (!b125) (
                  .ret (.bool false)) <|
                .ld a13 (.agg [.I, .bool]) fun (r126 : Int × Bool × Unit) =>
                .calln 11 #[.pointer r2.2.1] (.one (.agg [.I, .bool])) fun (r127 : Int × Bool × Unit) =>
                .keep [(a13, [.int .i64 r126.1, .bool r126.2.1])] <|
                .sem (eqSem BinOp.neq (42) (Operand.tmp 183) (Operand.tmp 184) (.agg #[.int .i64 r127.1, .bool r127.2.1]) (.agg #[.int .i64 r126.1, .bool r126.2.1])) .B fun (b128 : Bool) =>
                .cond b128 (
                  .ret (.bool false)) <|
                .calln 8 #[.pointer r2.1] .S fun (s129 : ByteArray) =>
                .cond (!decide (s129 = s9)) (
                  .ret (.bool false)) <|
                .jmp 0 [.int .i64 (IntKind.i64.wrap (r3.1 + (1 : Int)))]) <|
              .calln 8 #[.pointer r2.1] .S fun (s130 : ByteArray) =>
              .cond (!decide (s130 = s9)) (
                .ret (.bool false)) <|
              .jmp 0 [.int .i64 (IntKind.i64.wrap (r3.1 + (1 : Int)))]) <|
          .cond (decide (i14 = (2 : Int))) (
            .tick <|
            .ld ((a0.add 1).add 0) .I fun (i131 : Int) =>
            .ld (a13.add 0) .I fun (i132 : Int) =>
            .ld a8 (.agg [.I, .I, .I, .I, .slc, .str, .I, .bool, .I, .bool]) fun (r133 : Int × Int × Int × Int × Sl × ByteArray × Int × Bool × Int × Bool × Unit) =>
            .ld (a13.add 1) .B fun (b134 : Bool) =>
            .calln 17 #[.agg #[.int .i64 r133.1, .int .i64 r133.2.1, .int .i64 r133.2.2.1, .int .i64 r133.2.2.2.1, .slice r133.2.2.2.2.1.a r133.2.2.2.2.1.n r133.2.2.2.2.1.c, .string r133.2.2.2.2.2.1, .int .i64 r133.2.2.2.2.2.2.1, .bool r133.2.2.2.2.2.2.2.1, .int .i64 r133.2.2.2.2.2.2.2.2.1, .bool r133.2.2.2.2.2.2.2.2.2.1], .bool b134] .S fun (s135 : ByteArray) =>
            .keep [(a13.add 0, [.int .i64 i132]), ((a0.add 1).add 0, [.int .i64 i131])] <|
            .calln 16 #[.pointer r2.1, .int .i64 (IntKind.i64.wrap (IntKind.i64.wrap (i131 + IntKind.i64.wrap ((16 : Int) * i132)) + (8 : Int))), .string s135] .I fun (i136 : Int) =>
            .jmp 0 [.int .i64 (IntKind.i64.wrap (r3.1 + (1 : Int)))]) <|
          .cond (decide (i14 = (3 : Int))) (
            .tick <|
            .ld (a8.add 1) .I fun (i137 : Int) =>
            .ld (a8.add 5) .S fun (s138 : ByteArray) =>
            .ld (a8.add 5) .S fun (s139 : ByteArray) =>
            .need ((0 : Int) ≤ imn (↑s139.size : Int) (200 : Int) ∧ imn (↑s139.size : Int) (200 : Int) ≤ (↑s138.size : Int)) <|
            .calln 16 #[.pointer r2.1, .int .i64 (band IntKind.i64 i137 (4095 : Int)), .string (s138.extract 0 (imn (↑s139.size : Int) (200 : Int)).toNat)] .I fun (i140 : Int) =>
            .jmp 0 [.int .i64 (IntKind.i64.wrap (r3.1 + (1 : Int)))]) <|
          .jmp 0 [.int .i64 (IntKind.i64.wrap (r3.1 + (1 : Int)))]) <|
        .call 18 #[] .B fun (b141 : Bool) =>
        .ret (.bool b141)) <|
      .call 18 #[] .B fun (b142 : Bool) =>
      .ret (.bool b142)) <|
    .call 18 #[] .B fun (b143 : Bool) =>
    .ret (.bool b143)
theorem aqueductlaw15_DrvqRefuses.eq (x0 : Int × Int × Int × Int × Int × Sl × PUnit) : trOf Try.prog CC (.seq .o (.seq .o (.seq .o (.seq (.seq .o (.seq (.loop [7] [.sc (.int .i64)] (.seq .o (.seq (.seq (.seq .o (.seq .o (.seq .o (.seq (.seq .o (.seq (.seq .o (.join [] [] .o .o)) (.seq .o (.seq (.seq .o (.seq .o (.seq (.seq .o (.seq (.loop [19, 20] [.sc .bool, .sc (.int .i64)] .o) .o)) .o))) .o)))) .o)))) .o) .o))) .o)) .o)))) Try.f3 [.agg #[.int .i64 x0.fst, .int .i64 x0.snd.fst, .int .i64 x0.snd.snd.fst, .int .i64 x0.snd.snd.snd.fst, .int .i64 x0.snd.snd.snd.snd.fst, .slice x0.snd.snd.snd.snd.snd.fst.a x0.snd.snd.snd.snd.snd.fst.n x0.snd.snd.snd.snd.snd.fst.c]] = aqueductlaw15_DrvqRefuses.T x0 := by kernel_rfl
theorem aqueductlaw15_DrvqRefuses.calls (x0 : Int × Int × Int × Int × Int × Sl × PUnit) {R : Ending → World → Prop} {w : World} (h : (aqueductlaw15_DrvqRefuses.T x0).wp Try.prog R Conts.none w) : Calls Try.prog 3 #[.agg #[.int .i64 x0.fst, .int .i64 x0.snd.fst, .int .i64 x0.snd.snd.fst, .int .i64 x0.snd.snd.snd.fst, .int .i64 x0.snd.snd.snd.snd.fst, .slice x0.snd.snd.snd.snd.snd.fst.a x0.snd.snd.snd.snd.snd.fst.n x0.snd.snd.snd.snd.snd.fst.c]] w R :=
  calls_of_tr (args := [.agg #[.int .i64 x0.fst, .int .i64 x0.snd.fst, .int .i64 x0.snd.snd.fst, .int .i64 x0.snd.snd.snd.fst, .int .i64 x0.snd.snd.snd.snd.fst, .slice x0.snd.snd.snd.snd.snd.fst.a x0.snd.snd.snd.snd.snd.fst.n x0.snd.snd.snd.snd.snd.fst.c]]) hCC hMO Try.func3 ((aqueductlaw15_DrvqRefuses.eq x0).symm ▸ h)

end Go.Proofs.Ythfcneahnldgnaa
