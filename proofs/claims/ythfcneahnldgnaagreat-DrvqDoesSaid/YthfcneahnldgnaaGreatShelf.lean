/- strings.Repeat: the kit's contract, laid at this program. -/
import Derived.Test.YthfcneahnldgnaaGreatWords
import Derived.Shelf.Strings.Repeat
import Derived.Shelf.Lay
import Derived.Ground.NamesProg
import Derived.Lib.Agree
namespace Go.Proofs.YthfcneahnldgnaaGreat
open Go Go.Shelf Go.RowKit

shelf_lay Lays.n105 Nm 105 at Tryz as Tryz.laysRepeat

theorem extraRepeat : Builder.Extra Tryz.prog Tryz.laysRepeat_ren where
  sizeBuilder := by kernel_rfl
  liesBuilder := by kernel_rfl
  t5 := Tryz.laysRepeat.t5
  a5 := Tryz.laysRepeat.a5
  z5 := Tryz.laysRepeat.z5
  v5 := Tryz.laysRepeat.v5
  infoByte := by kernel_rfl
  cellsByte := by kernel_rfl
  sizeByte := by kernel_rfl
  neB5 := by decide
theorem fRepeat : Tryz.laysRepeat_ren.f 105 = 61 := by kernel_rfl
theorem keep_of_below {w w' : World} (h : Below w.heap.size w w') : Vk.Keep [] w w' := ⟨h.os, h.tape, h.output, h.size, fun b hb _ => h.block b hb⟩
theorem Repeat_spec {w0 w : World} {W : List Nat} {B : List Vk.Res} (h : Vk.St w0 W w B) (n : Nat) (hn : n ≤ 140737488355328) :
    Calls Tryz.prog 61 #[.string (ByteArray.mk #[0]), .int .i64 n] w fun e w' => e = .returned (.string (mkB (List.replicate n 0))) ∧ Vk.St w0 W w' B := by
  have h1 := Any.strings_Repeat Tryz.laysRepeat extraRepeat ⟨#[0]⟩ n w (by omega) (by show 1 * n ≤ _; omega)
  rw [fRepeat] at h1
  refine h1.mono fun e w' ⟨he, hw⟩ => ⟨?_, h.keep (keep_of_below hw)⟩
  rw [he]
  have e1 : Lib.repeatL (ByteArray.mk #[0]).data.toList n = List.replicate n 0 := by
    have := Lib.repeatL_replicate 0 1 n
    simpa using this
  rw [e1]
  rfl
end Go.Proofs.YthfcneahnldgnaaGreat
