/-
  (*strings.Builder).WriteRune: the shelf's contract, laid by hand over Map's laying.
-/
import Derived.Test.YtokojeiiobhciaaGreatDoorLi
namespace Go.Proofs.YtokojeiiobhciaaGreatDoor
open Go.RowKit Mem Go.Shelf
set_option linter.unusedVariables false

theorem lays168 : Lays.n168 Tryz.prog Tryz.lays230_ren := {
  mixed := Tryz.lays230.mixed
  f168 := Tryz.lays230.f168
  f240 := Tryz.lays230.f240
  f242 := Tryz.lays230.f242
  f276 := Tryz.lays230.f276
  f278 := Tryz.lays230.f278
  t0 := Tryz.lays230.t0
  a0 := Tryz.lays230.a0
  z0 := Tryz.lays230.z0
  v0 := Tryz.lays230.v0
  t3 := Tryz.lays230.t3
  a3 := Tryz.lays230.a3
  z3 := Tryz.lays230.z3
  v3 := Tryz.lays230.v3
  t4 := Tryz.lays230.t4
  a4 := Tryz.lays230.a4
  z4 := Tryz.lays230.z4
  v4 := Tryz.lays230.v4
  t5 := Tryz.lays230.t5
  a5 := Tryz.lays230.a5
  z5 := Tryz.lays230.z5
  v5 := Tryz.lays230.v5
  t9 := Tryz.lays230.t9
  a9 := Tryz.lays230.a9
  z9 := Tryz.lays230.z9
  v9 := Tryz.lays230.v9
  t20 := Tryz.lays230.t20
  a20 := Tryz.lays230.a20
  z20 := Tryz.lays230.z20
  v20 := Tryz.lays230.v20
  t21 := Tryz.lays230.t21
  a21 := Tryz.lays230.a21
  z21 := Tryz.lays230.z21
  v21 := Tryz.lays230.v21
  t37 := Tryz.lays230.t37
  a37 := Tryz.lays230.a37
  z37 := Tryz.lays230.z37
  v37 := Tryz.lays230.v37
  t46 := Tryz.lays230.t46
  a46 := Tryz.lays230.a46
  z46 := Tryz.lays230.z46
  v46 := Tryz.lays230.v46
  t51 := Tryz.lays230.t51
  a51 := Tryz.lays230.a51
  z51 := Tryz.lays230.z51
  v51 := Tryz.lays230.v51
  t70 := Tryz.lays230.t70
  a70 := Tryz.lays230.a70
  z70 := Tryz.lays230.z70
  v70 := Tryz.lays230.v70
  t72 := Tryz.lays230.t72
  a72 := Tryz.lays230.a72
  z72 := Tryz.lays230.z72
  v72 := Tryz.lays230.v72
  t75 := Tryz.lays230.t75
  a75 := Tryz.lays230.a75
  z75 := Tryz.lays230.z75
  v75 := Tryz.lays230.v75
  t164 := Tryz.lays230.t164
  a164 := Tryz.lays230.a164
  z164 := Tryz.lays230.z164
  v164 := Tryz.lays230.v164
}
theorem wrune (B b : Nat) (bs : List Value) (r : Int) (hr0 : -2147483648 ≤ r) (hr1 : r ≤ 2147483647) (w : World) (h : Lib.IsBuilderF 38 5 B b bs w) (hlen : bs.length + 4 ≤ 140737488355328) (hBw : B ≤ w.heap.size) :
    Calls Tryz.prog 19 #[.pointer (some ⟨b, 0, none⟩), .int .i32 r] w fun e w' => e = .returned (.tuple #[.int .i64 (Lib.runeCells r).length, .nilIface]) ∧ (Lib.BuilderAtF 38 5 B b (.pointer (some ⟨b, 0, none⟩)) (bs ++ Lib.runeCells r) w' ∧ Below B w w' ∧ Lib.OthersKept 5 (some b) w w') :=
  Any.Builder_WriteRune_k lays168 Tryz.Builder_Extra_230 B b bs r hr0 hr1 w h hlen hBw
end Go.Proofs.YtokojeiiobhciaaGreatDoor
