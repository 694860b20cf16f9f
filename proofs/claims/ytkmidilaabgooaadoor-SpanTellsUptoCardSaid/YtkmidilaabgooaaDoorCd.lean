/-
  strings.Cut at a byte; a scan's value.
-/
import Derived.Test.YtkmidilaabgooaaDoorCj
namespace Go.Proofs.YtkmidilaabgooaaDoor
open Go.RowKit Mem
set_option linter.unusedVariables false
set_option linter.unusedSimpArgs false

/-- stringslite.Cut at a byte. -/
theorem scut_any (l : Bs) (c : UInt8) (w : World) (hl : l.length ≤ 9223372036854775807) : Calls Tryd.prog 58 #[.string (sv l), .string (sv [c])] w fun e w' =>
    e = .returned (match cut c l with | some (a, b) => .tuple #[.string (sv a), .string (sv b), .bool true] | none => .tuple #[.string (sv l), .string (sv []), .bool false]) ∧ Dr w w' := by
  have hidx := cut_index c l
  have hix := Tryd.stringslite_Index_one (sv l) c w
  rw [sv_list] at hix
  rcases hidx with ⟨h1, h2⟩ | ⟨n, h1, h2, h3⟩
  · rw [h1] at hix
    rw [h2]
    clear h1 h2
    go_enter Tryd.func58, Tryd.ntmps58
    go_wp2_with (go_at_call 63; refine hix.mono ?_; rintro e w' ⟨rfl, rfl⟩)
    go_ret3
    exact ⟨rfl, Dr.refl _⟩
  · rw [h1] at hix
    rw [h3]
    have hs1 := sv_take l n
    have hs2 := sv_drop l (n + 1) l.length rfl
    have hsz := sv_size l
    have hc1 : (sv [c]).size = 1 := rfl
    have q1 : (n : Int) ≤ (l.length : Int) := by omega
    have q2 : (n : Int) + 1 ≤ (l.length : Int) := by omega
    have q3 : (0 : Int) ≤ (n : Int) + 1 := by omega
    have q4 : (0 : Int) ≤ (n : Int) := by omega
    have q5 : ((n : Int) + 1).toNat = n + 1 := by omega
    have q6 : IntKind.i64.wrap ((n : Int) + 1) = (n : Int) + 1 := by rw [IntKind.wrap_i64]; omega
    clear h1 h3
    go_enter Tryd.func58, Tryd.ntmps58
    go_wp2_with (go_at_call 63; refine hix.mono ?_; rintro e w' ⟨rfl, rfl⟩)
    go_quiet (fail)
    go_wp2
    go_ret3
    exact ⟨rfl, Dr.of _ _⟩
/-- What a cut gives. -/
def cutV (l : Bs) (c : UInt8) : Value := match cut c l with | some (a, b) => .tuple #[.string (sv a), .string (sv b), .bool true] | none => .tuple #[.string (sv l), .string (sv []), .bool false]
theorem cut_any (l : Bs) (c : UInt8) (w : World) (hl : l.length ≤ 9223372036854775807) : Calls Tryd.prog 27 #[.string (sv l), .string (sv [c])] w fun e w' => e = .returned (cutV l c) ∧ Dr w w' := by
  have hc := scut_any l c w hl
  unfold cutV
  rcases hq : cut c l with _ | ⟨a, b⟩
  all_goals
    rw [hq] at hc
    dsimp only at hc ⊢
    clear hq
    go_enter Tryd.func27, Tryd.ntmps27
    go_wp2_with (go_at_call 58; refine hc.mono ?_; rintro e w' ⟨rfl, hd⟩)
    have Hd := Lib.hid hd
    clear hd
    go_wp2
    go_ret3
    exact ⟨rfl, Hd.out⟩
theorem cut_some {l a b : Bs} {c : UInt8} (h : cut c l = some (a, b)) (hl : l.length ≤ 9223372036854775807) (w : World) : Calls Tryd.prog 27 #[.string (sv l), .string (sv [c])] w fun e w' => e = .returned (.tuple #[.string (sv a), .string (sv b), .bool true]) ∧ Dr w w' := by
  have := cut_any l c w hl
  unfold cutV at this
  rw [h] at this
  exact this
theorem cut_none {l : Bs} {c : UInt8} (h : cut c l = none) (hl : l.length ≤ 9223372036854775807) (w : World) : Calls Tryd.prog 27 #[.string (sv l), .string (sv [c])] w fun e w' => e = .returned (.tuple #[.string (sv l), .string (sv []), .bool false]) ∧ Dr w w' := by
  have := cut_any l c w hl
  unfold cutV at this
  rw [h] at this
  exact this

/-- How an attribute's value was taken. -/
def ValPost (l : Bs) (w : World) (g : Nat) (e : Ending) (w' : World) : Prop := match valF l with
  | some r => e = .returned (.bool true) ∧ Did w w' g r
  | none => e = .returned (.bool false) ∧ ∃ m, Did w w' g m
theorem ValPost.some {l r : Bs} {w w' : World} {g : Nat} (h : valF l = some r) (hd : Did w w' g r) : ValPost l w g (.returned (.bool true)) w' := by
  unfold ValPost; rw [h]; exact ⟨rfl, hd⟩
theorem ValPost.none {l m : Bs} {w w' : World} {g : Nat} (h : valF l = none) (hd : Did w w' g m) : ValPost l w g (.returned (.bool false)) w' := by
  unfold ValPost; rw [h]; exact ⟨rfl, m, hd⟩
theorem gap_n {g : Nat} {l m : Bs} {w : World} {n : Nat} (hS : Scn w g l) (hl : l.length ≤ 9223372036854775807) (hn : gapN l = n) (hm : gapF l = m) :
    Calls Tryd.prog 40 #[.pointer (some ⟨g, 0, none⟩)] w fun e w' => e = .returned (.int .i64 n) ∧ Did w w' g m := by
  subst hn hm; exact gap_any g l w hS hl
theorem Did.mod0 {w w' w'' : World} {g : Nat} {l : Bs} (h : Did w w' g l) (hm : Mod (fun _ => False) w' w'') : Did w w'' g l := ⟨h.s.mod hm (fun h => h), h.m.trans hm (fun _ h => h.elim)⟩
theorem pre_cons (c b : UInt8) (l : Bs) : ([c] : Bs).isPrefixOf (b :: l) = (c == b) := by
  show (c == b && ([] : Bs).isPrefixOf l) = (c == b)
  cases c == b <;> rfl
theorem pre_nil (c : UInt8) : ([c] : Bs).isPrefixOf [] = false := rfl
end Go.Proofs.YtkmidilaabgooaaDoor
