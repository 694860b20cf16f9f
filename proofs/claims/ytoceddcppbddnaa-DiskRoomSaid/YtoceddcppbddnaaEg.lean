/-
  DiskRoom: two files and their room. No memory in sight.
-/
import Derived.Test.YtoceddcppbddnaaEc
namespace Go.Proofs.Ytoceddcppbddnaa
set_option linter.unusedVariables false
set_option linter.unusedSimpArgs false

abbrev na : Bs := [97]
abbrev nb : Bs := [98]
abbrev nc : Bs := [99]
def fsOf (x y : Option Bs) : List Fl := (match x with | some b => [(na, b, 0)] | none => []) ++ (match y with | some b => [(nb, b, 0)] | none => [])
def roomA (room : Nat) (x y : Option Bs) : Ab := ⟨(room : Int), fsOf x y, false, none, 0⟩
def ol (x : Option Bs) : Nat := (x.getD []).length
theorem fs_tot (x y : Option Bs) : totA (fsOf x y) = ol x + ol y := by cases x <;> cases y <;> simp [fsOf, totA, ol]
theorem fs_len (x y : Option Bs) : (fsOf x y).length ≤ 2 := by cases x <;> cases y <;> simp [fsOf]
theorem put_a (x y : Option Bs) (z : Bs) : putA (fsOf x y) na z = fsOf (some (x.getD [] ++ z)) y := by cases x <;> cases y <;> rfl
theorem put_b (x y : Option Bs) (z : Bs) : putA (fsOf x y) nb z = fsOf x (some (y.getD [] ++ z)) := by cases x <;> cases y <;> rfl
theorem room_used (room : Nat) (x y : Option Bs) : usedA (roomA room x y) = ol x + ol y := by
  show usedN false (totA (fsOf x y)) = _
  rw [fs_tot]; rfl
theorem room_fit {room : Nat} {x y : Option Bs} {n z : Bs} (hn : nmA n = true) (h : ol x + ol y + z.length ≤ room) : appendA (roomA room x y) n z = (withFs (roomA room x y) (putA (fsOf x y) n z), 0) := by
  rw [append_ok rfl hn, deed_plain0 rfl]
  · rfl
  · rw [room_used]
    show (z.length : Int) ≤ (room : Int) - _
    omega
theorem room_full {room : Nat} {x y : Option Bs} {n z : Bs} (hn : nmA n = true) (h : ¬ ol x + ol y + z.length ≤ room) (hl : ol x + ol y ≤ room) : appendA (roomA room x y) n z = (roomA room x y, 14) := by
  have hu := room_used room x y
  unfold appendA
  rw [hu, hn]
  have e1 : (roomA room x y).off = false := rfl
  have e2 : (roomA room x y).room = (room : Int) := rfl
  rw [e1, e2, if_neg (by decide), if_neg (by decide), if_pos (by omega)]
theorem room_remove (room : Nat) (x y : Option Bs) : (removeA (roomA room x y) na).1 = roomA room none y := by cases x <;> cases y <;> rfl
theorem room_read (room : Nat) (y : Option Bs) : (readA (roomA room none y) nb).1 = y.getD [] := by cases y <;> rfl
/-- A step: it fits, or nothing is changed. -/
theorem room_step (room : Nat) (x y : Option Bs) (odd : Bool) (z : Bs) (h : ol x + ol y ≤ room) :
    ∃ x' y', (appendA (roomA room x y) (if odd then nb else na) z).1 = roomA room x' y' ∧ (appendA (roomA room x y) (if odd then nb else na) z).2 = (if ol x + ol y + z.length ≤ room then 0 else 14) ∧
      ol x' + ol y' = (if ol x + ol y + z.length ≤ room then ol x + ol y + z.length else ol x + ol y) := by
  by_cases hf : ol x + ol y + z.length ≤ room
  · rw [if_pos hf, if_pos hf]
    cases odd with
    | true =>
      rw [show (if true = true then nb else na) = nb from rfl, room_fit (by decide) hf]
      refine ⟨x, some (y.getD [] ++ z), ?_, rfl, ?_⟩
      · show withFs (roomA room x y) (putA (fsOf x y) nb z) = _
        rw [put_b]; rfl
      · unfold ol; simp; omega
    | false =>
      rw [show (if false = true then nb else na) = na from rfl, room_fit (by decide) hf]
      refine ⟨some (x.getD [] ++ z), y, ?_, rfl, ?_⟩
      · show withFs (roomA room x y) (putA (fsOf x y) na z) = _
        rw [put_a]; rfl
      · unfold ol; simp; omega
  · rw [if_neg hf, if_neg hf]
    cases odd with
    | true =>
      rw [show (if true = true then nb else na) = nb from rfl, room_full (by decide) hf h]
      exact ⟨x, y, rfl, rfl, rfl⟩
    | false =>
      rw [show (if false = true then nb else na) = na from rfl, room_full (by decide) hf h]
      exact ⟨x, y, rfl, rfl, rfl⟩
end Go.Proofs.Ytoceddcppbddnaa
