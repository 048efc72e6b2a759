/- Trees: printed by a program of this session's out of the loaded code; each is held against the code by the kernel. -/
import Derived.Test.YthfcneahnldgnaaGreatTrees
import Derived.Test.YthfcneahnldgnaaGreatProg
import Derived.KernelRfl
namespace Go.Proofs.YthfcneahnldgnaaGreat
open Go Vk
set_option linter.unusedVariables false

/-- aqueduct/aqueductlaw15.DrvqDoes -/
def aqueductlaw15_DrvqDoes.T (x0 : Int × Int × Int × Int × Int × Sl × PUnit) : Tr :=
  .new 26 [.int .i64 x0.1, .int .i64 x0.2.1, .int .i64 x0.2.2.1, .int .i64 x0.2.2.2.1, .int .i64 x0.2.2.2.2.1, .slice x0.2.2.2.2.2.1.a x0.2.2.2.2.2.1.n x0.2.2.2.2.2.1.c] fun (a0 : Addr) =>
  .ld a0 (.agg [.I, .I, .I, .I, .I, .slc]) fun (r1 : Int × Int × Int × Int × Int × Sl × Unit) =>
  .call 4 #[.agg #[.int .i64 r1.1, .int .i64 r1.2.1, .int .i64 r1.2.2.1, .int .i64 r1.2.2.2.1, .int .i64 r1.2.2.2.2.1, .slice r1.2.2.2.2.2.1.a r1.2.2.2.2.2.1.n r1.2.2.2.2.2.1.c]] (.tup [.P, .P, .P, .B]) fun (r2 : Option Addr × Option Addr × Option Addr × Bool × Unit) =>
  .cond (!r2.2.2.2.1) (
    .ret (.bool false)) <|
  .loop 0 [.P, .P, .I] ((r2.1, r2.2.1, (0 : Int), ())) fun (r3 : Option Addr × Option Addr × Int × Unit) =>
    .cond (!Option.isNone r3.2.1) (
      .cond (!Option.isNone r2.2.2.1) (
        .ld (a0.add 5) .L fun (l4 : Sl) =>
        .cond (decide (r3.2.2.1 < (↑l4.n : Int))) (
          .cond (decide (r3.2.2.1 < (80 : Int))) (
            .ld (a0.add 5) .L fun (l5 : Sl) =>
            .need ((0 : Int) ≤ r3.2.2.1 ∧ r3.2.2.1 < (↑l5.n : Int)) <|
            .nil l5.a fun (a6 : Addr) =>
            .ld (a6.add (Int.toNat r3.2.2.1 * 10)) (.agg [.I, .I, .I, .I, .slc, .str, .I, .bool, .I, .bool]) fun (r7 : Int × Int × Int × Int × Sl × ByteArray × Int × Bool × Int × Bool × Unit) =>
            .new 36 [.int .i64 0, .int .i64 0, .int .i64 0, .int .i64 0, .slice none (0) (0), .string (ByteArray.mk #[]), .int .i64 0, .bool false, .int .i64 0, .bool false] fun (a8 : Addr) =>
            .st a8 [.int .i64 r7.1, .int .i64 r7.2.1, .int .i64 r7.2.2.1, .int .i64 r7.2.2.2.1, .slice r7.2.2.2.2.1.a r7.2.2.2.2.1.n r7.2.2.2.2.1.c, .string r7.2.2.2.2.2.1, .int .i64 r7.2.2.2.2.2.2.1, .bool r7.2.2.2.2.2.2.2.1, .int .i64 r7.2.2.2.2.2.2.2.2.1, .bool r7.2.2.2.2.2.2.2.2.2.1] <|
            .bind 1 [.P, .P] (
              .ld (a8.add 0) .I fun (i9 : Int) =>
              .cond (decide (i9 = (0 : Int))) (
                .ld a8 (.agg [.I, .I, .I, .I, .slc, .str, .I, .bool, .I, .bool]) fun (r10 : Int × Int × Int × Int × Sl × ByteArray × Int × Bool × Int × Bool × Unit) =>
                .call 6 #[.agg #[.int .i64 r10.1, .int .i64 r10.2.1, .int .i64 r10.2.2.1, .int .i64 r10.2.2.2.1, .slice r10.2.2.2.2.1.a r10.2.2.2.2.1.n r10.2.2.2.2.1.c, .string r10.2.2.2.2.2.1, .int .i64 r10.2.2.2.2.2.2.1, .bool r10.2.2.2.2.2.2.2.1, .int .i64 r10.2.2.2.2.2.2.2.2.1, .bool r10.2.2.2.2.2.2.2.2.2.1]] .L fun (l11 : Sl) =>
                .call 5 #[.pointer r3.2.1, .slice l11.a l11.n l11.c] (.tup [.I, .I]) fun (r12 : Int × Int × Unit) =>
                .ld a8 (.agg [.I, .I, .I, .I, .slc, .str, .I, .bool, .I, .bool]) fun (r13 : Int × Int × Int × Int × Sl × ByteArray × Int × Bool × Int × Bool × Unit) =>
                .call 6 #[.agg #[.int .i64 r13.1, .int .i64 r13.2.1, .int .i64 r13.2.2.1, .int .i64 r13.2.2.2.1, .slice r13.2.2.2.2.1.a r13.2.2.2.2.1.n r13.2.2.2.2.1.c, .string r13.2.2.2.2.2.1, .int .i64 r13.2.2.2.2.2.2.1, .bool r13.2.2.2.2.2.2.2.1, .int .i64 r13.2.2.2.2.2.2.2.2.1, .bool r13.2.2.2.2.2.2.2.2.2.1]] .L fun (l14 : Sl) =>
                .call 7 #[.pointer r2.2.2.1, .slice l14.a l14.n l14.c] (.tup [.I, .I]) fun (r15 : Int × Int × Unit) =>
                .cond (!decide (r12.1 = r15.1)) (
                  .ret (.bool false)) <|
                .cond (!decide (r12.2.1 = r15.2.1)) (
                  .ret (.bool false)) <|
                .jmp 1 [.pointer r3.1, .pointer r3.2.1]) <|
              .cond (decide (i9 = (1 : Int))) (
                .call 8 #[.pointer r3.2.1] (.tup [.I, .I, .B, .I]) fun (r16 : Int × Int × Bool × Int × Unit) =>
                .call 9 #[.pointer r2.2.2.1] (.tup [.I, .I, .B, .I]) fun (r17 : Int × Int × Bool × Int × Unit) =>
                .cond (!decide (r16.1 = r17.1)) (
                  .ret (.bool false)) <|
                .cond (!decide (r16.2.1 = r17.2.1)) (
                  .ret (.bool false)) <|
                .cond (!r16.2.2.1 == r17.2.2.1) (
                  .ret (.bool false)) <|
                .cond (!decide (r16.2.2.2.1 = r17.2.2.2.1)) (
                  .ret (.bool false)) <|
                .jmp 1 [.pointer r3.1, .pointer r3.2.1]) <|
              .cond (decide (i9 = (2 : Int))) (
                .tick <|
                .ld ((a0.add 1).add 0) .I fun (i18 : Int) =>
                .nil r2.2.2.1 fun (a19 : Addr) =>
                .ld ((a19.add 7).add 0) .I fun (i20 : Int) =>
                .tick <|
                .ld a8 (.agg [.I, .I, .I, .I, .slc, .str, .I, .bool, .I, .bool]) fun (r21 : Int × Int × Int × Int × Sl × ByteArray × Int × Bool × Int × Bool × Unit) =>
                .nil r2.2.2.1 fun (a22 : Addr) =>
                .ld ((a22.add 7).add 1) .B fun (b23 : Bool) =>
                .calln 11 #[.agg #[.int .i64 r21.1, .int .i64 r21.2.1, .int .i64 r21.2.2.1, .int .i64 r21.2.2.2.1, .slice r21.2.2.2.2.1.a r21.2.2.2.2.1.n r21.2.2.2.2.1.c, .string r21.2.2.2.2.2.1, .int .i64 r21.2.2.2.2.2.2.1, .bool r21.2.2.2.2.2.2.2.1, .int .i64 r21.2.2.2.2.2.2.2.2.1, .bool r21.2.2.2.2.2.2.2.2.2.1], .bool b23] .S fun (s24 : ByteArray) =>
                .calln 10 #[.pointer r3.1, .int .i64 (IntKind.i64.wrap (IntKind.i64.wrap (i18 + IntKind.i64.wrap ((16 : Int) * i20)) + (8 : Int))), .string s24] .I fun (i25 : Int) =>
                .tick <|
                .nil r2.2.2.1 fun (a26 : Addr) =>
                .ld (a26.add 0) .P fun (p27 : Option Addr) =>
                .ld a8 (.agg [.I, .I, .I, .I, .slc, .str, .I, .bool, .I, .bool]) fun (r28 : Int × Int × Int × Int × Sl × ByteArray × Int × Bool × Int × Bool × Unit) =>
                .nil r2.2.2.1 fun (a29 : Addr) =>
                .ld ((a29.add 7).add 1) .B fun (b30 : Bool) =>
                .calln 11 #[.agg #[.int .i64 r28.1, .int .i64 r28.2.1, .int .i64 r28.2.2.1, .int .i64 r28.2.2.2.1, .slice r28.2.2.2.2.1.a r28.2.2.2.2.1.n r28.2.2.2.2.1.c, .string r28.2.2.2.2.2.1, .int .i64 r28.2.2.2.2.2.2.1, .bool r28.2.2.2.2.2.2.2.1, .int .i64 r28.2.2.2.2.2.2.2.2.1, .bool r28.2.2.2.2.2.2.2.2.2.1], .bool b30] .S fun (s31 : ByteArray) =>
                .keep [(a26.add 0, [.pointer p27])] <|
                .calln 12 #[.pointer p27, .int .i64 (IntKind.i64.wrap (IntKind.i64.wrap (i18 + IntKind.i64.wrap ((16 : Int) * i20)) + (8 : Int))), .string s31] .I fun (i32 : Int) =>
                .jmp 1 [.pointer r3.1, .pointer r3.2.1]) <|
              .cond (decide (i9 = (3 : Int))) (
                .tick <|
                .ld (a8.add 1) .I fun (i33 : Int) =>
                .ld (a8.add 5) .S fun (s34 : ByteArray) =>
                .ld (a8.add 5) .S fun (s35 : ByteArray) =>
                .need ((0 : Int) ≤ imn (↑s35.size : Int) (200 : Int) ∧ imn (↑s35.size : Int) (200 : Int) ≤ (↑s34.size : Int)) <|
                .calln 10 #[.pointer r3.1, .int .i64 (band IntKind.i64 i33 (4095 : Int)), .string (s34.extract 0 (imn (↑s35.size : Int) (200 : Int)).toNat)] .I fun (i36 : Int) =>
                .tick <|
                .nil r2.2.2.1 fun (a37 : Addr) =>
                .ld (a37.add 0) .P fun (p38 : Option Addr) =>
                .ld (a8.add 1) .I fun (i39 : Int) =>
                .ld (a8.add 5) .S fun (s40 : ByteArray) =>
                .ld (a8.add 5) .S fun (s41 : ByteArray) =>
                .need ((0 : Int) ≤ imn (↑s41.size : Int) (200 : Int) ∧ imn (↑s41.size : Int) (200 : Int) ≤ (↑s40.size : Int)) <|
                .calln 12 #[.pointer p38, .int .i64 (band IntKind.i64 i39 (4095 : Int)), .string (s40.extract 0 (imn (↑s41.size : Int) (200 : Int)).toNat)] .I fun (i42 : Int) =>
                .jmp 1 [.pointer r3.1, .pointer r3.2.1]) <|
              .cond (decide (i9 = (4 : Int))) (
                .call 13 #[.pointer r3.2.1] .B fun (b43 : Bool) =>
                .call 14 #[.pointer r2.2.2.1] .B fun (b44 : Bool) =>
                .cond (!b43 == b44) (
                  .ret (.bool false)) <|
                .jmp 1 [.pointer r3.1, .pointer r3.2.1]) <|
              .cond (decide (i9 = (5 : Int))) (
                .ld (a8.add 6) (.agg [.I, .bool, .I]) fun (r45 : Int × Bool × Int × Unit) =>
                .call 15 #[.pointer r3.2.1, .agg #[.int .i64 r45.1, .bool r45.2.1, .int .i64 r45.2.2.1]] .I fun (i46 : Int) =>
                .ld (a8.add 6) (.agg [.I, .bool, .I]) fun (r47 : Int × Bool × Int × Unit) =>
                .call 16 #[.pointer r2.2.2.1, .agg #[.int .i64 r47.1, .bool r47.2.1, .int .i64 r47.2.2.1]] .I fun (i48 : Int) =>
                .cond (!decide (i46 = i48)) (
                  .ret (.bool false)) <|
                .jmp 1 [.pointer r3.1, .pointer r3.2.1]) <|
              .cond (decide (i9 = (6 : Int))) (
                .call 17 #[.pointer r3.1] .P fun (p49 : Option Addr) =>
                .call 18 #[.pointer r3.2.1, .pointer p49] .P fun (p50 : Option Addr) =>
                .cond p49.isNone (
                  .ret (.bool false)) <|
                .cond p50.isNone (
                  .ret (.bool false)) <|
                .new 56 [.int .i64 0, .int .i64 1, .bool false] fun (a51 : Addr) =>
                .call 5 #[.pointer r3.2.1, .slice (some a51) (1) (1)] (.tup [.I, .I]) fun (r52 : Int × Int × Unit) =>
                .call 8 #[.pointer r3.2.1] (.tup [.I, .I, .B, .I]) fun (r53 : Int × Int × Bool × Int × Unit) =>
                .call 19 #[.pointer r3.1, .int .i64 0, .int .i64 8, .int .u64 1818584692] .I fun (i54 : Int) =>
                .jmp 1 [.pointer p49, .pointer p50]) <|
              .jmp 1 [.pointer r3.1, .pointer r3.2.1]) fun (r55 : Option Addr × Option Addr × Unit) =>
            .call 20 #[.pointer r55.1, .pointer r55.2.1, .pointer r2.2.2.1] .B fun (b56 : Bool) =>
            .cond (!b56) (
              .ret (.bool false)) <|
            .jmp 0 [.pointer r55.1, .pointer r55.2.1, .int .i64 (IntKind.i64.wrap (r3.2.2.1 + (1 : Int)))]) <|
          .call 21 #[] .B fun (b57 : Bool) =>
          .ret (.bool b57)) <|
        .call 21 #[] .B fun (b58 : Bool) =>
        .ret (.bool b58)) <|
      .call 21 #[] .B fun (b59 : Bool) =>
      .ret (.bool b59)) <|
    .call 21 #[] .B fun (b60 : Bool) =>
    .ret (.bool b60)
theorem aqueductlaw15_DrvqDoes.eq (x0 : Int × Int × Int × Int × Int × Sl × PUnit) : trOf Tryz.prog CC (.seq .o (.seq .o (.seq .o (.seq (.seq .o (.seq (.loop [3, 4, 7] [.sc .ptr, .sc .ptr, .sc (.int .i64)] (.seq .o (.seq (.seq (.seq .o (.join [3, 4] [.sc .ptr, .sc .ptr] .o .o)) .o) .o))) .o)) .o)))) Tryz.f3 [.agg #[.int .i64 x0.fst, .int .i64 x0.snd.fst, .int .i64 x0.snd.snd.fst, .int .i64 x0.snd.snd.snd.fst, .int .i64 x0.snd.snd.snd.snd.fst, .slice x0.snd.snd.snd.snd.snd.fst.a x0.snd.snd.snd.snd.snd.fst.n x0.snd.snd.snd.snd.snd.fst.c]] = aqueductlaw15_DrvqDoes.T x0 := by kernel_rfl
theorem aqueductlaw15_DrvqDoes.calls (x0 : Int × Int × Int × Int × Int × Sl × PUnit) {R : Ending → World → Prop} {w : World} (h : (aqueductlaw15_DrvqDoes.T x0).wp Tryz.prog R Conts.none w) : Calls Tryz.prog 3 #[.agg #[.int .i64 x0.fst, .int .i64 x0.snd.fst, .int .i64 x0.snd.snd.fst, .int .i64 x0.snd.snd.snd.fst, .int .i64 x0.snd.snd.snd.snd.fst, .slice x0.snd.snd.snd.snd.snd.fst.a x0.snd.snd.snd.snd.snd.fst.n x0.snd.snd.snd.snd.snd.fst.c]] w R :=
  calls_of_tr (args := [.agg #[.int .i64 x0.fst, .int .i64 x0.snd.fst, .int .i64 x0.snd.snd.fst, .int .i64 x0.snd.snd.snd.fst, .int .i64 x0.snd.snd.snd.snd.fst, .slice x0.snd.snd.snd.snd.snd.fst.a x0.snd.snd.snd.snd.snd.fst.n x0.snd.snd.snd.snd.snd.fst.c]]) hCC hMO Tryz.func3 ((aqueductlaw15_DrvqDoes.eq x0).symm ▸ h)

/-- aqueduct/aqueductlaw15.laid -/
def aqueductlaw15_laid.T (x0 : Int × Int × Int × Int × Int × Sl × PUnit) : Tr :=
  .new 26 [.int .i64 x0.1, .int .i64 x0.2.1, .int .i64 x0.2.2.1, .int .i64 x0.2.2.2.1, .int .i64 x0.2.2.2.2.1, .slice x0.2.2.2.2.2.1.a x0.2.2.2.2.2.1.n x0.2.2.2.2.2.1.c] fun (a0 : Addr) =>
  .ld (a0.add 0) .I fun (i1 : Int) =>
  .call 22 #[.int .i64 (imx (64 : Int) (imn i1 (2048 : Int)))] (.tup [.P, .I]) fun (r2 : Option Addr × Int × Unit) =>
  .call 23 #[.int .i64 (imx (64 : Int) (imn i1 (2048 : Int)))] (.tup [.P, .I]) fun (r3 : Option Addr × Int × Unit) =>
  .cond (Option.isNone r2.1) (
    .ret (.tuple #[.pointer none, .pointer none, .pointer none, .bool false])) <|
  .cond (Option.isNone r3.1) (
    .ret (.tuple #[.pointer none, .pointer none, .pointer none, .bool false])) <|
  .cond (!decide (r2.2.1 = (0 : Int))) (
    .ret (.tuple #[.pointer none, .pointer none, .pointer none, .bool false])) <|
  .cond (!decide (r3.2.1 = (0 : Int))) (
    .ret (.tuple #[.pointer none, .pointer none, .pointer none, .bool false])) <|
  .sem (Go.Instr.makeSlice (65) (.int .i64 30) (.int .i64 30)) .L fun (l4 : Sl) =>
  .sem (Go.convert (65) (9) (.slice l4.a l4.n l4.c)) .S fun (s5 : ByteArray) =>
  .need (s5.size + (ByteArray.mk #[(119 : UInt8), (104 : UInt8), (97 : UInt8), (116 : UInt8), (32 : UInt8), (115 : UInt8), (116 : UInt8), (111 : UInt8), (111 : UInt8), (100 : UInt8), (32 : UInt8), (116 : UInt8), (104 : UInt8), (101 : UInt8), (114 : UInt8), (101 : UInt8)]).size ≤ 9223372036854775807) <|
  .call 10 #[.pointer r2.1, .int .i64 0, .string (s5 ++ ByteArray.mk #[(119 : UInt8), (104 : UInt8), (97 : UInt8), (116 : UInt8), (32 : UInt8), (115 : UInt8), (116 : UInt8), (111 : UInt8), (111 : UInt8), (100 : UInt8), (32 : UInt8), (116 : UInt8), (104 : UInt8), (101 : UInt8), (114 : UInt8), (101 : UInt8)])] .I fun (i6 : Int) =>
  .cond (!decide (i6 = (0 : Int))) (
    .ret (.tuple #[.pointer none, .pointer none, .pointer none, .bool false])) <|
  .call 12 #[.pointer r3.1, .int .i64 0, .string (s5 ++ ByteArray.mk #[(119 : UInt8), (104 : UInt8), (97 : UInt8), (116 : UInt8), (32 : UInt8), (115 : UInt8), (116 : UInt8), (111 : UInt8), (111 : UInt8), (100 : UInt8), (32 : UInt8), (116 : UInt8), (104 : UInt8), (101 : UInt8), (114 : UInt8), (101 : UInt8)])] .I fun (i7 : Int) =>
  .cond (!decide (i7 = (0 : Int))) (
    .ret (.tuple #[.pointer none, .pointer none, .pointer none, .bool false])) <|
  .ld (a0.add 1) (.agg [.I, .I, .I, .I]) fun (r8 : Int × Int × Int × Int × Unit) =>
  .call 24 #[.pointer r2.1, .agg #[.int .i64 r8.1, .int .i64 r8.2.1, .int .i64 r8.2.2.1, .int .i64 r8.2.2.2.1]] (.tup [.P, .I]) fun (r9 : Option Addr × Int × Unit) =>
  .ld (a0.add 1) (.agg [.I, .I, .I, .I]) fun (r10 : Int × Int × Int × Int × Unit) =>
  .call 25 #[.pointer r3.1, .agg #[.int .i64 r10.1, .int .i64 r10.2.1, .int .i64 r10.2.2.1, .int .i64 r10.2.2.2.1]] (.tup [.P, .I]) fun (r11 : Option Addr × Int × Unit) =>
  .tick <|
  .cond (decide (r9.2.1 = r11.2.1)) (
    .cond (Option.isNone r9.1 == Option.isNone r11.1) (
      .nil r3.1 fun (a12 : Addr) =>
      .ld (a12.add 0) .S fun (s13 : ByteArray) =>
      .calln 26 #[.pointer r2.1] .S fun (s14 : ByteArray) =>
      .keep [(a12.add 0, [.string s13])] <|
      .ret (.tuple #[.pointer r2.1, .pointer r9.1, .pointer r11.1, .bool (decide (s14 = s13))])) <|
    .ret (.tuple #[.pointer r2.1, .pointer r9.1, .pointer r11.1, .bool false])) <|
  .ret (.tuple #[.pointer r2.1, .pointer r9.1, .pointer r11.1, .bool false])
theorem aqueductlaw15_laid.eq (x0 : Int × Int × Int × Int × Int × Sl × PUnit) : trOf Tryz.prog CC (.o) Tryz.f4 [.agg #[.int .i64 x0.fst, .int .i64 x0.snd.fst, .int .i64 x0.snd.snd.fst, .int .i64 x0.snd.snd.snd.fst, .int .i64 x0.snd.snd.snd.snd.fst, .slice x0.snd.snd.snd.snd.snd.fst.a x0.snd.snd.snd.snd.snd.fst.n x0.snd.snd.snd.snd.snd.fst.c]] = aqueductlaw15_laid.T x0 := by kernel_rfl
theorem aqueductlaw15_laid.calls (x0 : Int × Int × Int × Int × Int × Sl × PUnit) {R : Ending → World → Prop} {w : World} (h : (aqueductlaw15_laid.T x0).wp Tryz.prog R Conts.none w) : Calls Tryz.prog 4 #[.agg #[.int .i64 x0.fst, .int .i64 x0.snd.fst, .int .i64 x0.snd.snd.fst, .int .i64 x0.snd.snd.snd.fst, .int .i64 x0.snd.snd.snd.snd.fst, .slice x0.snd.snd.snd.snd.snd.fst.a x0.snd.snd.snd.snd.snd.fst.n x0.snd.snd.snd.snd.snd.fst.c]] w R :=
  calls_of_tr (args := [.agg #[.int .i64 x0.fst, .int .i64 x0.snd.fst, .int .i64 x0.snd.snd.fst, .int .i64 x0.snd.snd.snd.fst, .int .i64 x0.snd.snd.snd.snd.fst, .slice x0.snd.snd.snd.snd.snd.fst.a x0.snd.snd.snd.snd.snd.fst.n x0.snd.snd.snd.snd.snd.fst.c]]) hCC hMO Tryz.func4 ((aqueductlaw15_laid.eq x0).symm ▸ h)

/-- aqueduct/aqueductlaw15.parts -/
def aqueductlaw15_parts.T (x0 : Int × Int × Int × Int × Sl × ByteArray × Int × Bool × Int × Bool × PUnit) : Tr :=
  .new 36 [.int .i64 x0.1, .int .i64 x0.2.1, .int .i64 x0.2.2.1, .int .i64 x0.2.2.2.1, .slice x0.2.2.2.2.1.a x0.2.2.2.2.1.n x0.2.2.2.2.1.c, .string x0.2.2.2.2.2.1, .int .i64 x0.2.2.2.2.2.2.1, .bool x0.2.2.2.2.2.2.2.1, .int .i64 x0.2.2.2.2.2.2.2.2.1, .bool x0.2.2.2.2.2.2.2.2.2.1] fun (a0 : Addr) =>
  .ld (a0.add 4) .L fun (l1 : Sl) =>
  .ld (a0.add 4) .L fun (l2 : Sl) =>
  .need ((0 : Int) ≤ imn (↑l2.n : Int) (70 : Int) ∧ imn (↑l2.n : Int) (70 : Int) ≤ (↑l1.c : Int)) <|
  .ret (.slice (slB l1.a 0 3 l1.c) ((imn (↑l2.n : Int) (70 : Int)).toNat - 0) (l1.c - 0))
theorem aqueductlaw15_parts.eq (x0 : Int × Int × Int × Int × Sl × ByteArray × Int × Bool × Int × Bool × PUnit) : trOf Tryz.prog CC (.o) Tryz.f6 [.agg #[.int .i64 x0.fst, .int .i64 x0.snd.fst, .int .i64 x0.snd.snd.fst, .int .i64 x0.snd.snd.snd.fst, .slice x0.snd.snd.snd.snd.fst.a x0.snd.snd.snd.snd.fst.n x0.snd.snd.snd.snd.fst.c, .string x0.snd.snd.snd.snd.snd.fst, .int .i64 x0.snd.snd.snd.snd.snd.snd.fst, .bool x0.snd.snd.snd.snd.snd.snd.snd.fst, .int .i64 x0.snd.snd.snd.snd.snd.snd.snd.snd.fst, .bool x0.snd.snd.snd.snd.snd.snd.snd.snd.snd.fst]] = aqueductlaw15_parts.T x0 := by kernel_rfl
theorem aqueductlaw15_parts.calls (x0 : Int × Int × Int × Int × Sl × ByteArray × Int × Bool × Int × Bool × PUnit) {R : Ending → World → Prop} {w : World} (h : (aqueductlaw15_parts.T x0).wp Tryz.prog R Conts.none w) : Calls Tryz.prog 6 #[.agg #[.int .i64 x0.fst, .int .i64 x0.snd.fst, .int .i64 x0.snd.snd.fst, .int .i64 x0.snd.snd.snd.fst, .slice x0.snd.snd.snd.snd.fst.a x0.snd.snd.snd.snd.fst.n x0.snd.snd.snd.snd.fst.c, .string x0.snd.snd.snd.snd.snd.fst, .int .i64 x0.snd.snd.snd.snd.snd.snd.fst, .bool x0.snd.snd.snd.snd.snd.snd.snd.fst, .int .i64 x0.snd.snd.snd.snd.snd.snd.snd.snd.fst, .bool x0.snd.snd.snd.snd.snd.snd.snd.snd.snd.fst]] w R :=
  calls_of_tr (args := [.agg #[.int .i64 x0.fst, .int .i64 x0.snd.fst, .int .i64 x0.snd.snd.fst, .int .i64 x0.snd.snd.snd.fst, .slice x0.snd.snd.snd.snd.fst.a x0.snd.snd.snd.snd.fst.n x0.snd.snd.snd.snd.fst.c, .string x0.snd.snd.snd.snd.snd.fst, .int .i64 x0.snd.snd.snd.snd.snd.snd.fst, .bool x0.snd.snd.snd.snd.snd.snd.snd.fst, .int .i64 x0.snd.snd.snd.snd.snd.snd.snd.snd.fst, .bool x0.snd.snd.snd.snd.snd.snd.snd.snd.snd.fst]]) hCC hMO Tryz.func6 ((aqueductlaw15_parts.eq x0).symm ▸ h)

/-- aqueduct/aqueductlaw15.used -/
def aqueductlaw15_used.T (x0 : Int × Int × Int × Int × Sl × ByteArray × Int × Bool × Int × Bool × PUnit) (x1 : Bool) : Tr :=
  .new 36 [.int .i64 x0.1, .int .i64 x0.2.1, .int .i64 x0.2.2.1, .int .i64 x0.2.2.2.1, .slice x0.2.2.2.2.1.a x0.2.2.2.2.1.n x0.2.2.2.2.1.c, .string x0.2.2.2.2.2.1, .int .i64 x0.2.2.2.2.2.2.1, .bool x0.2.2.2.2.2.2.2.1, .int .i64 x0.2.2.2.2.2.2.2.2.1, .bool x0.2.2.2.2.2.2.2.2.2.1] fun (a0 : Addr) =>
  .tick <|
  .ld (a0.add 3) .I fun (i1 : Int) =>
  .ld (a0.add 2) .I fun (i2 : Int) =>
  .ld (a0.add 9) .B fun (b3 : Bool) =>
  .calln 35 #[.int .i64 0, .bool (x1 == b3), .bool true] .I fun (i4 : Int) =>
  .keep [(a0.add 2, [.int .i64 i2]), (a0.add 3, [.int .i64 i1])] <|
  .calln 34 #[.agg #[.int .u64 0, .int .u32 (IntKind.u32.wrap i1), .int .i64 (band IntKind.i64 i2 (65535 : Int)), .int .i64 i4]] (.tup [.S, .I]) fun (r5 : ByteArray × Int × Unit) =>
  .need ((0 : Int) ≤ (8 : Int) ∧ (8 : Int) ≤ (↑(ByteArray.size r5.1) : Int)) <|
  .ret (.string (ByteArray.extract r5.1 (Int.toNat (8 : Int)) (ByteArray.size r5.1)))
theorem aqueductlaw15_used.eq (x0 : Int × Int × Int × Int × Sl × ByteArray × Int × Bool × Int × Bool × PUnit) (x1 : Bool) : trOf Tryz.prog CC (.o) Tryz.f11 [.agg #[.int .i64 x0.fst, .int .i64 x0.snd.fst, .int .i64 x0.snd.snd.fst, .int .i64 x0.snd.snd.snd.fst, .slice x0.snd.snd.snd.snd.fst.a x0.snd.snd.snd.snd.fst.n x0.snd.snd.snd.snd.fst.c, .string x0.snd.snd.snd.snd.snd.fst, .int .i64 x0.snd.snd.snd.snd.snd.snd.fst, .bool x0.snd.snd.snd.snd.snd.snd.snd.fst, .int .i64 x0.snd.snd.snd.snd.snd.snd.snd.snd.fst, .bool x0.snd.snd.snd.snd.snd.snd.snd.snd.snd.fst], .bool x1] = aqueductlaw15_used.T x0 x1 := by kernel_rfl
theorem aqueductlaw15_used.calls (x0 : Int × Int × Int × Int × Sl × ByteArray × Int × Bool × Int × Bool × PUnit) (x1 : Bool) {R : Ending → World → Prop} {w : World} (h : (aqueductlaw15_used.T x0 x1).wp Tryz.prog R Conts.none w) : Calls Tryz.prog 11 #[.agg #[.int .i64 x0.fst, .int .i64 x0.snd.fst, .int .i64 x0.snd.snd.fst, .int .i64 x0.snd.snd.snd.fst, .slice x0.snd.snd.snd.snd.fst.a x0.snd.snd.snd.snd.fst.n x0.snd.snd.snd.snd.fst.c, .string x0.snd.snd.snd.snd.snd.fst, .int .i64 x0.snd.snd.snd.snd.snd.snd.fst, .bool x0.snd.snd.snd.snd.snd.snd.snd.fst, .int .i64 x0.snd.snd.snd.snd.snd.snd.snd.snd.fst, .bool x0.snd.snd.snd.snd.snd.snd.snd.snd.snd.fst], .bool x1] w R :=
  calls_of_tr (args := [.agg #[.int .i64 x0.fst, .int .i64 x0.snd.fst, .int .i64 x0.snd.snd.fst, .int .i64 x0.snd.snd.snd.fst, .slice x0.snd.snd.snd.snd.fst.a x0.snd.snd.snd.snd.fst.n x0.snd.snd.snd.snd.fst.c, .string x0.snd.snd.snd.snd.snd.fst, .int .i64 x0.snd.snd.snd.snd.snd.snd.fst, .bool x0.snd.snd.snd.snd.snd.snd.snd.fst, .int .i64 x0.snd.snd.snd.snd.snd.snd.snd.snd.fst, .bool x0.snd.snd.snd.snd.snd.snd.snd.snd.snd.fst], .bool x1]) hCC hMO Tryz.func11 ((aqueductlaw15_used.eq x0 x1).symm ▸ h)

/-- aqueduct/aqueductlaw15.same -/
def aqueductlaw15_same.T (x0 : Addr) (x1 : Addr) (x2 : Addr) : Tr :=
  .tick <|
  .ld (x2.add 0) .P fun (p0 : Option Addr) =>
  .nil p0 fun (a1 : Addr) =>
  .ld (a1.add 0) .S fun (s2 : ByteArray) =>
  .calln 26 #[.pointer (some x0)] .S fun (s3 : ByteArray) =>
  .keep [(a1.add 0, [.string s2]), (x2.add 0, [.pointer p0])] <|
  .cond (decide (s3 = s2)) (
    .calln 55 #[.pointer (some x1)] .I fun (i4 : Int) =>
    .keep [(x2.add 0, [.pointer p0])] <|
    .calln 32 #[.pointer (some x2)] .I fun (i5 : Int) =>
    .keep [(x2.add 0, [.pointer p0])] <|
    .cond (decide (i4 = i5)) (
      .calln 57 #[.pointer (some x1)] .L fun (l6 : Sl) =>
      .keep [(x2.add 0, [.pointer p0])] <|
      .calln 58 #[.pointer (some x2)] .L fun (l7 : Sl) =>
      .keep [(x2.add 0, [.pointer p0])] <|
      .calln 56 #[.slice l6.a l6.n l6.c, .slice l7.a l7.n l7.c] .B fun (b8 : Bool) =>
      .keep [(x2.add 0, [.pointer p0])] <|
      .cond b8 (
        .ld (x2.add 7) (.agg [.I, .bool]) fun (r9 : Int × Bool × Unit) =>
        .calln 59 #[.pointer (some x1)] (.one (.agg [.I, .bool])) fun (r10 : Int × Bool × Unit) =>
        .keep [(x2.add 7, [.int .i64 r9.1, .bool r9.2.1]), (x2.add 0, [.pointer p0])] <|
        .sem (eqSem BinOp.eql (44) (Operand.tmp 33) (Operand.tmp 37) (.agg #[.int .i64 r10.1, .bool r10.2.1]) (.agg #[.int .i64 r9.1, .bool r9.2.1])) .B fun (b11 : Bool) =>
        .keep [(x2.add 0, [.pointer p0])] <|
        .ret (.bool b11)) <|
      .ret (.bool false)) <|
    .ret (.bool false)) <|
  .ret (.bool false)
theorem aqueductlaw15_same.eq (x0 : Addr) (x1 : Addr) (x2 : Addr) : trOf Tryz.prog CC (.o) Tryz.f20 [.pointer (some x0), .pointer (some x1), .pointer (some x2)] = aqueductlaw15_same.T x0 x1 x2 := by kernel_rfl
theorem aqueductlaw15_same.calls (x0 : Addr) (x1 : Addr) (x2 : Addr) {R : Ending → World → Prop} {w : World} (h : (aqueductlaw15_same.T x0 x1 x2).wp Tryz.prog R Conts.none w) : Calls Tryz.prog 20 #[.pointer (some x0), .pointer (some x1), .pointer (some x2)] w R :=
  calls_of_tr (args := [.pointer (some x0), .pointer (some x1), .pointer (some x2)]) hCC hMO Tryz.func20 ((aqueductlaw15_same.eq x0 x1 x2).symm ▸ h)

/-- aqueduct/aqueductlaw15.fixed -/
def aqueductlaw15_fixed.T  : Tr :=
  .new 23 [.int .i64 0, .int .i64 0, .int .i64 0, .int .i64 0] fun (a0 : Addr) =>
  .st a0 [.int .i64 0, .int .i64 4, .int .i64 64, .int .i64 68] <|
  .ld a0 (.agg [.I, .I, .I, .I]) fun (r1 : Int × Int × Int × Int × Unit) =>
  .call 4 #[.agg #[.int .i64 256, .int .i64 r1.1, .int .i64 r1.2.1, .int .i64 r1.2.2.1, .int .i64 r1.2.2.2.1, .slice none (0) (0)]] (.tup [.P, .P, .P, .B]) fun (r2 : Option Addr × Option Addr × Option Addr × Bool × Unit) =>
  .cond (!r2.2.2.2.1) (
    .ret (.bool false)) <|
  .cond (Option.isNone r2.2.1) (
    .ret (.bool false)) <|
  .new 56 [.int .i64 128, .int .i64 5, .bool false, .int .i64 140, .int .i64 6, .bool true] fun (a3 : Addr) =>
  .call 5 #[.pointer r2.2.1, .slice (some a3) (2) (2)] (.tup [.I, .I]) fun (r4 : Int × Int × Unit) =>
  .call 55 #[.pointer r2.2.1] .I fun (i5 : Int) =>
  .new 56 [.int .i64 128, .int .i64 5, .bool false] fun (a6 : Addr) =>
  .sem (Go.Builtin.append_ #[32, 32] (32) #[.slice (some a6) (1) (1), .slice (some a3) (2) (2)]) .L fun (l7 : Sl) =>
  .call 5 #[.pointer r2.2.1, .slice l7.a l7.n l7.c] (.tup [.I, .I]) fun (r8 : Int × Int × Unit) =>
  .call 5 #[.pointer r2.2.1, .slice none (0) (0)] (.tup [.I, .I]) fun (r9 : Int × Int × Unit) =>
  .tick <|
  .need ((0 : Int) ≤ (1 : Int) ∧ (1 : Int) < (↑2 : Int)) <|
  .ld (a3.add (Int.toNat (1 : Int) * 3)) (.agg [.I, .I, .bool]) fun (r10 : Int × Int × Bool × Unit) =>
  .need ((0 : Int) ≤ (0 : Int) ∧ (0 : Int) < (↑2 : Int)) <|
  .ld (a3.add (Int.toNat (0 : Int) * 3)) (.agg [.I, .I, .bool]) fun (r11 : Int × Int × Bool × Unit) =>
  .new 56 [.int .i64 r10.1, .int .i64 r10.2.1, .bool r10.2.2.1, .int .i64 r11.1, .int .i64 r11.2.1, .bool r11.2.2.1] fun (a12 : Addr) =>
  .calln 5 #[.pointer r2.2.1, .slice (some a12) (2) (2)] (.tup [.I, .I]) fun (r13 : Int × Int × Unit) =>
  .call 8 #[.pointer r2.2.1] (.tup [.I, .I, .B, .I]) fun (r14 : Int × Int × Bool × Int × Unit) =>
  .call 36 #[.pointer r2.1, .int .i64 0, .int .i64 32] (.tup [.S, .I]) fun (r15 : ByteArray × Int × Unit) =>
  .call 10 #[.pointer r2.1, .int .i64 8, .string (ByteArray.mk #[(7 : UInt8), (0 : UInt8), (0 : UInt8), (0 : UInt8), (0 : UInt8), (0 : UInt8), (128 : UInt8), (128 : UInt8)])] .I fun (i16 : Int) =>
  .call 8 #[.pointer r2.2.1] (.tup [.I, .I, .B, .I]) fun (r17 : Int × Int × Bool × Int × Unit) =>
  .call 24 #[.pointer r2.1, .agg #[.int .i64 0, .int .i64 0, .int .i64 0, .int .i64 0]] (.tup [.P, .I]) fun (r18 : Option Addr × Int × Unit) =>
  .cond (decide (r4.1 = (0 : Int))) (
    .cond (decide (r4.2.1 = (0 : Int))) (
      .cond (decide (i5 = (2 : Int))) (
        .cond (decide (r8.2.1 = (151 : Int))) (
          .cond (decide (r9.2.1 = (150 : Int))) (
            .cond (decide (r13.2.1 = (150 : Int))) (
              .cond (!r14.2.2.1) (
                .cond (decide (r14.2.2.2.1 = (0 : Int))) (
                  .cond (decide (r15.2.1 = (0 : Int))) (
                    .cond (decide (r15.1 = ByteArray.mk #[(128 : UInt8), (0 : UInt8), (0 : UInt8), (0 : UInt8), (0 : UInt8), (0 : UInt8), (0 : UInt8), (0 : UInt8), (5 : UInt8), (0 : UInt8), (0 : UInt8), (0 : UInt8), (0 : UInt8), (0 : UInt8), (129 : UInt8), (0 : UInt8), (140 : UInt8), (0 : UInt8), (0 : UInt8), (0 : UInt8), (0 : UInt8), (0 : UInt8), (0 : UInt8), (0 : UInt8), (6 : UInt8), (0 : UInt8), (0 : UInt8), (0 : UInt8), (0 : UInt8), (0 : UInt8), (130 : UInt8), (0 : UInt8)])) (
                      .cond (decide (r17.1 = (0 : Int))) (
                        .cond (decide (r17.2.1 = (7 : Int))) (
                          .cond r17.2.2.1 (
                            .cond (decide (r17.2.2.2.1 = (0 : Int))) (
                              .call 55 #[.pointer r2.2.1] .I fun (i19 : Int) =>
                              .cond (decide (i19 = (4 : Int))) (
                                .call 57 #[.pointer r2.2.1] .L fun (l20 : Sl) =>
                                .cond (decide ((↑l20.n : Int) = (0 : Int))) (
                                  .cond (decide (r18.2.1 = (140 : Int))) (
                                    .call 59 #[.pointer r2.2.1] (.one (.agg [.I, .bool])) fun (r21 : Int × Bool × Unit) =>
                                    .sem (eqSem BinOp.eql (44) (Operand.tmp 177) (Operand.tmp 178) (.agg #[.int .i64 r21.1, .bool r21.2.1]) (.agg #[.int .i64 2, .bool true])) .B fun (b22 : Bool) =>
                                    .ret (.bool b22)) <|
                                  .ret (.bool false)) <|
                                .ret (.bool false)) <|
                              .ret (.bool false)) <|
                            .ret (.bool false)) <|
                          .ret (.bool false)) <|
                        .ret (.bool false)) <|
                      .ret (.bool false)) <|
                    .ret (.bool false)) <|
                  .ret (.bool false)) <|
                .ret (.bool false)) <|
              .ret (.bool false)) <|
            .ret (.bool false)) <|
          .ret (.bool false)) <|
        .ret (.bool false)) <|
      .ret (.bool false)) <|
    .ret (.bool false)) <|
  .ret (.bool false)
theorem aqueductlaw15_fixed.eq  : trOf Tryz.prog CC (.o) Tryz.f21 [] = aqueductlaw15_fixed.T := by kernel_rfl
theorem aqueductlaw15_fixed.calls  {R : Ending → World → Prop} {w : World} (h : (aqueductlaw15_fixed.T).wp Tryz.prog R Conts.none w) : Calls Tryz.prog 21 #[] w R :=
  calls_of_tr (args := []) hCC hMO Tryz.func21 ((aqueductlaw15_fixed.eq ).symm ▸ h)

end Go.Proofs.YthfcneahnldgnaaGreat
