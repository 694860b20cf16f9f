/-
  The contract of Rest.
-/
import Derived.Test.YtbmflpojcgocaaaCb
import Derived.Test.YtbmflpojcgocaaaShelf
import Derived.Lib.Strings
namespace Go.Proofs.Ytbmflpojcgocaaa
open Go.RowKit Mem Pl

/-- A text out of bytes. -/
def str (l : List UInt8) : ByteArray := ⟨l.toArray⟩
theorem str_list (l : List UInt8) : (str l).data.toList = l := by simp [str]
theorem str_inj {a b : ByteArray} (h : a.data.toList = b.data.toList) : a = b := by
  cases a with | mk a => cases b with | mk b => congr 1; exact Array.toList_inj.1 h

def restOf (line : ByteArray) (s : St) : List UInt8 := List.replicate s.part 32 ++ line.data.toList.drop s.at_

theorem ext_list (s : ByteArray) (a : Nat) : (s.extract a s.size).data.toList = s.data.toList.drop a := by
  rw [Lib.extract_data, List.take_of_length_le]
  rw [List.length_drop, size_list]; omega

theorem rep32 (n : Nat) : Lib.repeatL [32] n = List.replicate n 32 := by
  induction n with
  | zero => rfl
  | succ n ih => simp [Lib.repeatL, ih, List.replicate_succ]

theorem repeat_any (c : Nat) (w : World) (hc : c ≤ 1000000) :
    Calls Try.prog 26 #[.string ⟨#[32]⟩, .int .i64 c] w fun e w' => e = .returned (.string (str (List.replicate c 32))) ∧ Below w.heap.size w w' :=
  (Try.strings_Repeat ⟨#[32]⟩ c w (by omega) (by show 1 * c ≤ _; omega)).mono fun e w' ⟨he, hb⟩ => ⟨by rw [he]; show Ending.returned (.string ⟨(Lib.repeatL [32] c).toArray⟩) = _; rw [rep32]; rfl, hb⟩

set_option maxHeartbeats 800000 in
theorem rest_any (g : Nat) (line : ByteArray) (s : St) (w : World) (hC : Cur w g line s) (hF : Fits line s) (hp : s.part ≤ 4) :
    Calls Try.prog 12 #[.pointer (some ⟨g, 0, none⟩)] w fun e w' => e = .returned (.string (str (restOf line s))) ∧ Mod (fun _ => False) w w' := by
  obtain ⟨c0, c1, c2, c3⟩ := hC.cells
  have h1 := hF.at_
  have h2 := hF.line
  have hsz : (str (List.replicate s.part 32)).size = s.part := by simp [str, ByteArray.size]
  have hadd : ∀ wx : World, (Op.stringOp .add (str (List.replicate s.part 32)) (line.extract s.at_ line.size)).run Try.prog wx = .ok (.string (str (List.replicate s.part 32) ++ line.extract s.at_ line.size)) wx :=
    fun wx => run_string_add_sum (P := Try.prog) wx _ _ (by rw [hsz, ext_size]; omega)
  have hfin : str (List.replicate s.part 32) ++ line.extract s.at_ line.size = str (restOf line s) := by
    apply str_inj
    rw [str_list, ByteArray.data_append, Array.toList_append, ext_list, str_list]
    rfl
  have Hfin := Lib.hid hfin
  clear hsz hfin
  go_enter Try.func12, Try.ntmps12
  go_wp2
  go_region_held3 (fun w' => w'.cell? ⟨g, 0, none⟩ = some (.string line) ∧ w'.cell? ⟨g, 1, none⟩ = some (.int .i64 s.at_) ∧ w'.cell? ⟨g, 3, none⟩ = some (.int .i64 s.part)) (first | go_keep | (refine ⟨?_, ?_, ?_⟩ <;> (refine cell_below hb ?_; simp [*]; done)))
    (first | (go_at_call 26; refine (repeat_any _ _ ?_).mono ?_; (omega); rintro e w' ⟨rfl, hb⟩))
  go_wp2
  go_ret
  rw [Hfin.out]
  exact ⟨rfl, (mod_of_below hb).undrew⟩

set_option maxHeartbeats 800000 in
/-- Where no tab is half passed Rest only reads. -/
theorem rest_zero (g : Nat) (line : ByteArray) (a c : Nat) (w : World) (hC : Cur w g line ⟨a, c, 0⟩) (h1 : a ≤ line.size) (h2 : line.size ≤ 3100) :
    Calls Try.prog 12 #[.pointer (some ⟨g, 0, none⟩)] w fun e w' => e = .returned (.string (line.extract a line.size)) ∧ Dr w w' := by
  obtain ⟨c0, c1, c2, c3⟩ := hC.cells
  have hsz := ext_size line a
  have he : (⟨#[]⟩ : ByteArray) ++ line.extract a line.size = line.extract a line.size := by
    apply str_inj
    rw [ByteArray.data_append, Array.toList_append]
    rfl
  have hadd : ∀ wx : World, (Op.stringOp .add ⟨#[]⟩ (line.extract a line.size)).run Try.prog wx = .ok (.string (line.extract a line.size)) wx := fun wx => by
    rw [run_string_add_sum (P := Try.prog) wx _ _ (by rw [hsz]; show 0 + _ ≤ _; omega), he]
  clear hsz he
  simp only at c1 c2 c3
  go_enter Try.func12, Try.ntmps12
  go_wp2
  go_quiet ((go_at_call 26; exact Calls.quiet_of_same (Try.strings_Repeat_zero _ _)))
  go_wp2
  go_ret
  exact ⟨rfl, Dr.of _ _⟩
end Go.Proofs.Ytbmflpojcgocaaa
