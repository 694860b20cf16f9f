/-
  who, of a number.
-/
import Derived.Test.YtpbdcjgconopnaaGi
namespace Go.Proofs.Ytpbdcjgconopnaa
open Go.RowKit Mem
set_option linter.unusedVariables false

/-- The name of a number. -/
def wn (i : Nat) : Bs := [98, 47, 117, UInt8.ofNat (97 + i / 10), UInt8.ofNat (48 + i % 10)]

set_option maxHeartbeats 800000 in
theorem wn_any (i : Nat) (hi : i < 80) (w : World) : Calls Try.prog 13 #[.int .i64 i] w fun e w' => e = .returned (.string (sv (wn i))) ∧ Mod (fun _ => False) w w' := by
  have hal : Mod (fun _ => False) w (w.alloc (.cells #[.int .u8 (97 + (i : Int) / 10), .int .u8 (48 + (i : Int) % 10)] 5)) := (Mod.refl _ _).alloc _
  have HL := Lib.hid hal
  have hb := Blk.new w #[.int .u8 (97 + (i : Int) / 10), .int .u8 (48 + (i : Int) % 10)] 5
  have hcv : (convert 52 9 (.slice (some ⟨w.heap.size, 0, none⟩) 2 2)).run Try.prog (w.alloc (.cells #[.int .u8 (97 + (i : Int) / 10), .int .u8 (48 + (i : Int) % 10)] 5)) = .ok (.string (strOfNums [97 + (i : Int) / 10, 48 + (i : Int) % 10])) (w.alloc (.cells #[.int .u8 (97 + (i : Int) / 10), .int .u8 (48 + (i : Int) % 10)] 5)) := by
    refine run_convert_bytes_arg _ 52 5 Try.underlying52 Try.underlying5 w.heap.size 0 2 2 _ (by simp) (fun j hj => ?_) 9 Try.underlying9
    have : j = 0 ∨ j = 1 := by omega
    rcases this with rfl | rfl
    · simp [hb.cell 0]
    · simp [hb.cell 1]
  have hq1 : (i : Int).tdiv 10 = (i : Int) / 10 := Int.tdiv_eq_ediv_of_nonneg (by omega)
  have hq2 : (i : Int).tmod 10 = (i : Int) % 10 := Int.tmod_eq_emod_of_nonneg (by omega)
  have hw1 : IntKind.u8.wrap (97 + (i : Int) / 10) = 97 + (i : Int) / 10 := by rw [IntKind.wrap_u8]; omega
  have hw2 : IntKind.u8.wrap (48 + (i : Int) % 10) = 48 + (i : Int) % 10 := by rw [IntKind.wrap_u8]; omega
  have he : (⟨#[98, 47, 117]⟩ : ByteArray) ++ strOfNums [97 + (i : Int) / 10, 48 + (i : Int) % 10] = sv (wn i) := by
    apply ByteArray.ext
    apply Array.toList_inj.1
    rw [ByteArray.data_append, Array.toList_append, strOfNums_data]
    have e1 : (97 + (i : Int) / 10).toNat = 97 + i / 10 := by omega
    have e2 : (48 + (i : Int) % 10).toNat = 48 + i % 10 := by omega
    simp only [List.map_cons, List.map_nil, e1, e2]
    rfl
  have hsz : (strOfNums [97 + (i : Int) / 10, 48 + (i : Int) % 10]).size = 2 := by
    show (strOfNums [97 + (i : Int) / 10, 48 + (i : Int) % 10]).data.size = 2
    rw [← Array.length_toList, strOfNums_data]
    rfl
  clear hal hb
  go_enter Try.func13, Try.ntmps13
  go_wp2
  go_ret
  exact ⟨rfl, HL.out⟩
end Go.Proofs.Ytpbdcjgconopnaa
