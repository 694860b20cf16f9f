/-
  Contracts of cursor's functions that only read: New, Column, Indent, Behind, Blank, Next.
-/
import Derived.Test.YtbmflpojcgocaaaCa
namespace Go.Proofs.Ytbmflpojcgocaaa
open Go.RowKit Mem Pl

theorem Cur.set1 {w : World} {g : Nat} {line : ByteArray} {a c p : Nat} (h : Cur w g line ⟨a, c, p⟩) {x : Int} {x' : Nat} (hx : x = x') : Cur (w.setCell ⟨g, 1, none⟩ (.int .i64 x)) g line ⟨x', c, p⟩ := by subst hx; exact h.set 1 _
theorem Cur.set2 {w : World} {g : Nat} {line : ByteArray} {a c p : Nat} (h : Cur w g line ⟨a, c, p⟩) {x : Int} {x' : Nat} (hx : x = x') : Cur (w.setCell ⟨g, 2, none⟩ (.int .i64 x)) g line ⟨a, x', p⟩ := by subst hx; exact h.set 2 _
theorem Cur.set3 {w : World} {g : Nat} {line : ByteArray} {a c p : Nat} (h : Cur w g line ⟨a, c, p⟩) {x : Int} {x' : Nat} (hx : x = x') : Cur (w.setCell ⟨g, 3, none⟩ (.int .i64 x)) g line ⟨a, c, x'⟩ := by subst hx; exact h.set 3 _
theorem Cur.drewN {w : World} {g : Nat} {line : ByteArray} {s : St} (h : Cur w g line s) (n : Nat) : Cur (w.drewN n) g line s := h
theorem Cur.dr {w w' : World} {g : Nat} {line : ByteArray} {s : St} (h : Cur w g line s) (hd : Dr w w') : Cur w' g line s := Blk.dr h hd
theorem Cur.lt {w : World} {g : Nat} {line : ByteArray} {s : St} (h : Cur w g line s) : g < w.heap.size := Blk.lt h
theorem Cur.mod {S : Nat → Prop} {w w' : World} {g : Nat} {line : ByteArray} {s : St} (h : Cur w g line s) (hm : Mod S w w') (hg : ¬ S g) : Cur w' g line s := Blk.mod h hm hg
theorem mod_set {w wx : World} {g i : Nat} (h : Mod (· = g) w wx) (u : Value) : Mod (· = g) w (wx.setCell ⟨g, i, none⟩ u) := h.setCell (.inl rfl) u

theorem size_list (s : ByteArray) : s.data.toList.length = s.size := by rw [Array.length_toList]; rfl

/-- A cursor that may be: within its line. -/
structure Fits (line : ByteArray) (s : St) : Prop where
  at_ : s.at_ ≤ line.size
  line : line.size ≤ 3100
  col : s.col + s.part ≤ 4 * s.at_

theorem blanks' (g : Nat) (line : ByteArray) (s : St) (w : World) (hC : Cur w g line s) (hF : Fits line s) :
    Calls Try.prog 25 #[.pointer (some ⟨g, 0, none⟩)] w fun e w' => e = .returned (.tuple #[.int .i64 (endAt line.data.toList s : Nat), .int .i64 (endCol line.data.toList s : Nat)]) ∧ Dr w w' :=
  blanks_any g line s w hC hF.at_ hF.line (by have := hF.at_; have := hF.line; have := hF.col; omega)

theorem column_any (g : Nat) (line : ByteArray) (s : St) (w : World) (hC : Cur w g line s) :
    Calls Try.prog 11 #[.pointer (some ⟨g, 0, none⟩)] w fun e w' => e = .returned (.int .i64 s.col) ∧ w = w' := by
  obtain ⟨c0, c1, c2, c3⟩ := hC.cells
  go_enter Try.func11, Try.ntmps11
  go_wp2
  go_ret
  exact ⟨rfl, rfl⟩

theorem indent_any (g : Nat) (line : ByteArray) (s : St) (w : World) (hC : Cur w g line s) (hF : Fits line s) :
    Calls Try.prog 10 #[.pointer (some ⟨g, 0, none⟩)] w fun e w' => e = .returned (.int .i64 (endCol line.data.toList s - s.col : Int)) ∧ Dr w w' := by
  obtain ⟨c0, c1, c2, c3⟩ := hC.cells
  have h1 := end_bd line.data.toList s (by rw [size_list]; exact hF.at_)
  have h2 := hF.line
  have h3 := hF.col
  rw [size_list] at h1
  go_enter Try.func10, Try.ntmps10
  go_wp2_with (go_at_call 25; refine (blanks' g line s _ hC hF).mono ?_; rintro e w' ⟨rfl, ⟨n, rfl⟩⟩)
  go_ret
  exact ⟨rfl, Dr.of _ _⟩

theorem behind_any (g : Nat) (line : ByteArray) (s : St) (w : World) (hC : Cur w g line s) (hF : Fits line s) :
    Calls Try.prog 13 #[.pointer (some ⟨g, 0, none⟩)] w fun e w' => e = .returned (.string (line.extract (endAt line.data.toList s) line.size)) ∧ Dr w w' := by
  obtain ⟨c0, c1, c2, c3⟩ := hC.cells
  have h1 := end_bd line.data.toList s (by rw [size_list]; exact hF.at_)
  have h2 := hF.line
  rw [size_list] at h1
  go_enter Try.func13, Try.ntmps13
  go_wp2_with (go_at_call 25; refine (blanks' g line s _ hC hF).mono ?_; rintro e w' ⟨rfl, ⟨n, rfl⟩⟩)
  go_ret
  exact ⟨rfl, Dr.of _ _⟩

theorem ext_size (s : ByteArray) (a : Nat) : (s.extract a s.size).size = s.size - a := by simp [ByteArray.size_extract]
theorem ext_empty (s : ByteArray) (a : Nat) : (s.extract a s.size).toList.isEmpty = decide (s.size ≤ a) := by
  rw [Bool.eq_iff_iff, List.isEmpty_iff_length_eq_zero, ByteArray.toList_eq, Array.length_toList]
  have h := ext_size s a
  have h' : (s.extract a s.size).data.size = s.size - a := h
  rw [h', decide_eq_true_iff]
  omega
theorem ret_bool {a b : Bool} (h : a = b) : Ending.returned (.bool a) = .returned (.bool b) := by rw [h]
theorem ext_get (s : ByteArray) (a : Nat) (h : a < s.size) (h' : 0 < (s.extract a s.size).size) : (((s.extract a s.size)[0]'h').toNat : Int) = bt s a := by
  simp [bt, h, ByteArray.getElem_extract]

theorem blankC_any (g : Nat) (line : ByteArray) (s : St) (w : World) (hC : Cur w g line s) (hF : Fits line s) :
    Calls Try.prog 18 #[.pointer (some ⟨g, 0, none⟩)] w fun e w' => e = .returned (.bool (decide (endAt line.data.toList s = line.size))) ∧ Dr w w' := by
  have h1 := end_bd line.data.toList s (by rw [size_list]; exact hF.at_)
  rw [size_list] at h1
  go_enter Try.func18, Try.ntmps18
  go_wp2_with (go_at_call 13; refine (behind_any g line s _ hC hF).mono ?_; rintro e w' ⟨rfl, ⟨n, rfl⟩⟩)
  go_ret
  exact ⟨ret_bool (by rw [ext_empty]; exact decide_eq_decide.2 (by omega)), Dr.of _ _⟩

theorem nextC_any (g : Nat) (line : ByteArray) (s : St) (w : World) (hC : Cur w g line s) (hF : Fits line s) :
    Calls Try.prog 20 #[.pointer (some ⟨g, 0, none⟩)] w fun e w' => e = .returned (.int .u8 (bt line (endAt line.data.toList s))) ∧ Dr w w' := by
  have h1 := end_bd line.data.toList s (by rw [size_list]; exact hF.at_)
  rw [size_list] at h1
  by_cases hlt : endAt line.data.toList s < line.size
  · have he : (!(line.extract (endAt line.data.toList s) line.size).toList.isEmpty) = true := by rw [ext_empty, decide_eq_false (by omega)]; rfl
    have hg : 0 < line.size - endAt line.data.toList s := by omega
    have hx := ext_get line _ hlt
    go_enter Try.func20, Try.ntmps20
    go_wp2_with (go_at_call 13; refine (behind_any g line s _ hC hF).mono ?_; rintro e w' ⟨rfl, ⟨n, rfl⟩⟩)
    go_ret
    exact ⟨rfl, Dr.of _ _⟩
  · have he : (!(line.extract (endAt line.data.toList s) line.size).toList.isEmpty) = false := by rw [ext_empty, decide_eq_true (by omega)]; rfl
    go_enter Try.func20, Try.ntmps20
    go_wp2_with (go_at_call 13; refine (behind_any g line s _ hC hF).mono ?_; rintro e w' ⟨rfl, ⟨n, rfl⟩⟩)
    go_ret
    exact ⟨ret_int (by simp [bt, hlt]), Dr.of _ _⟩

theorem new_any (line : ByteArray) (w : World) :
    Calls Try.prog 8 #[.string line] w fun e w' => e = .returned (.pointer (some ⟨w.heap.size, 0, none⟩)) ∧ Cur w' w.heap.size line ⟨0, 0, 0⟩ ∧ Mod (fun _ => False) w w' ∧ w'.heap.size = w.heap.size + 1 := by
  go_enter Try.func8, Try.ntmps8
  go_wp2
  go_ret
  exact ⟨rfl, Blk.new _ _ _, (Mod.refl _ _).alloc _, by simp⟩
/-- A new cursor, somewhere new. -/
def NewCur (line : ByteArray) (w : World) (e : Ending) (w' : World) : Prop :=
  ∃ g, w.heap.size ≤ g ∧ e = .returned (.pointer (some ⟨g, 0, none⟩)) ∧ Cur w' g line ⟨0, 0, 0⟩ ∧ Mod (fun _ => False) w w'
theorem new_cur (line : ByteArray) (w : World) : Calls Try.prog 8 #[.string line] w (NewCur line w) :=
  (new_any line w).mono fun _ _ ⟨he, hc, hm, _⟩ => ⟨_, Nat.le_refl _, he, hc, hm⟩
end Go.Proofs.Ytbmflpojcgocaaa
