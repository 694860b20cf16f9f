/-
  (*strings.Builder).WriteRune: the shelf's contract, laid by hand over Map's laying.
-/
import Derived.Test.YtokojeiiobhciaaDoorLi
namespace Go.Proofs.YtokojeiiobhciaaDoor
open Go.RowKit Mem Go.Shelf
set_option linter.unusedVariables false

theorem lays168 : Lays.n168 Tryd.prog Tryd.lays230_ren := {
  mixed := Tryd.lays230.mixed
  f168 := Tryd.lays230.f168
  f240 := Tryd.lays230.f240
  f242 := Tryd.lays230.f242
  f276 := Tryd.lays230.f276
  f278 := Tryd.lays230.f278
  t0 := Tryd.lays230.t0
  a0 := Tryd.lays230.a0
  z0 := Tryd.lays230.z0
  v0 := Tryd.lays230.v0
  t3 := Tryd.lays230.t3
  a3 := Tryd.lays230.a3
  z3 := Tryd.lays230.z3
  v3 := Tryd.lays230.v3
  t4 := Tryd.lays230.t4
  a4 := Tryd.lays230.a4
  z4 := Tryd.lays230.z4
  v4 := Tryd.lays230.v4
  t5 := Tryd.lays230.t5
  a5 := Tryd.lays230.a5
  z5 := Tryd.lays230.z5
  v5 := Tryd.lays230.v5
  t9 := Tryd.lays230.t9
  a9 := Tryd.lays230.a9
  z9 := Tryd.lays230.z9
  v9 := Tryd.lays230.v9
  t20 := Tryd.lays230.t20
  a20 := Tryd.lays230.a20
  z20 := Tryd.lays230.z20
  v20 := Tryd.lays230.v20
  t21 := Tryd.lays230.t21
  a21 := Tryd.lays230.a21
  z21 := Tryd.lays230.z21
  v21 := Tryd.lays230.v21
  t37 := Tryd.lays230.t37
  a37 := Tryd.lays230.a37
  z37 := Tryd.lays230.z37
  v37 := Tryd.lays230.v37
  t46 := Tryd.lays230.t46
  a46 := Tryd.lays230.a46
  z46 := Tryd.lays230.z46
  v46 := Tryd.lays230.v46
  t51 := Tryd.lays230.t51
  a51 := Tryd.lays230.a51
  z51 := Tryd.lays230.z51
  v51 := Tryd.lays230.v51
  t70 := Tryd.lays230.t70
  a70 := Tryd.lays230.a70
  z70 := Tryd.lays230.z70
  v70 := Tryd.lays230.v70
  t72 := Tryd.lays230.t72
  a72 := Tryd.lays230.a72
  z72 := Tryd.lays230.z72
  v72 := Tryd.lays230.v72
  t75 := Tryd.lays230.t75
  a75 := Tryd.lays230.a75
  z75 := Tryd.lays230.z75
  v75 := Tryd.lays230.v75
  t164 := Tryd.lays230.t164
  a164 := Tryd.lays230.a164
  z164 := Tryd.lays230.z164
  v164 := Tryd.lays230.v164
}
theorem wrune (B b : Nat) (bs : List Value) (r : Int) (hr0 : -2147483648 ≤ r) (hr1 : r ≤ 2147483647) (w : World) (h : Lib.IsBuilderF 39 5 B b bs w) (hlen : bs.length + 4 ≤ 140737488355328) (hBw : B ≤ w.heap.size) :
    Calls Tryd.prog 18 #[.pointer (some ⟨b, 0, none⟩), .int .i32 r] w fun e w' => e = .returned (.tuple #[.int .i64 (Lib.runeCells r).length, .nilIface]) ∧ (Lib.BuilderAtF 39 5 B b (.pointer (some ⟨b, 0, none⟩)) (bs ++ Lib.runeCells r) w' ∧ Below B w w' ∧ Lib.OthersKept 5 (some b) w w') :=
  Any.Builder_WriteRune_k lays168 Tryd.Builder_Extra_230 B b bs r hr0 hr1 w h hlen hBw
end Go.Proofs.YtokojeiiobhciaaDoor
