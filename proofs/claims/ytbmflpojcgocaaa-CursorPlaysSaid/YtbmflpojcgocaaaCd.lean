/-
  The contract of Move.
-/
import Derived.Test.YtbmflpojcgocaaaCb
namespace Go.Proofs.Ytbmflpojcgocaaa
open Go.RowKit Mem Pl

/-- What Move leaves. -/
def Moved (g : Nat) (line : ByteArray) (s : St) (w w' : World) : Prop := Cur w' g line s ∧ Mod (· = g) w w' ∧ w'.heap.size = w.heap.size

theorem Moved.here {g : Nat} {line : ByteArray} {s s' : St} {w wr wx : World} (h : s' = s) (hC : Cur wr g line s') (hM : Mod (· = g) w wr) (hS : wr.heap.size = w.heap.size) (hd : Dr wr wx) : Moved g line s w wx := by
  subst h
  exact ⟨hC.dr hd, hM.trans (hd.mod (S := fun _ => False)) (fun _ hf => hf.elim), by rw [hd.heap, hS]⟩

set_option maxRecDepth 100000 in
set_option maxHeartbeats 1600000 in
theorem move_any (g : Nat) (line : ByteArray) (s : St) (n : Int) (w : World) (hC : Cur w g line s) (hF : Fits line s) (hn0 : -9223372036854775808 ≤ n) (hn : n ≤ 9223372036854775807) :
    Calls Try.prog 15 #[.pointer (some ⟨g, 0, none⟩), .int .i64 n] w fun e w' => e = .returned (.tuple #[]) ∧ Moved g line (moves line.data.toList n.toNat ⟨endAt line.data.toList s, endCol line.data.toList s, 0⟩) w w' := by
  have hcs := hC.cells
  have hfs := hC.frozens
  have hlen := size_list line
  have hE := end_bd line.data.toList s (by rw [size_list]; exact hF.at_)
  have hF1 := hF.at_
  have hF2 := hF.line
  have hF3 := hF.col
  obtain ⟨c0, c1, c2, c3⟩ := hcs
  obtain ⟨f0, f1, f2, f3⟩ := hfs
  have Hlen := Lib.hid hlen
  rw [hlen] at hE
  clear hlen
  go_enter Try.func15, Try.ntmps15
  go_wp2_with (go_at_call 25; refine (blanks' g line s _ hC hF).mono ?_; rintro e w' ⟨rfl, ⟨nd, rfl⟩⟩)
  clear c0 c1 c2 c3 f0 f1 f2 f3
  generalize hA : endAt line.data.toList s = A at *
  generalize hB : endCol line.data.toList s = B at *
  have HA := Lib.hid hA
  have HB := Lib.hid hB
  clear hA hB
  go_loopg [1] n.toNat (fun q v wr => ∃ (m : Int) (a c : Nat), v = .int .i64 m ∧ Hid (m.toNat = q) ∧ m ≤ n ∧ -9223372036854775808 ≤ m ∧ Hid (moves line.data.toList m.toNat ⟨a, c, 0⟩ = moves line.data.toList n.toNat ⟨A, B, 0⟩) ∧ Hid (Cur wr g line ⟨a, c, 0⟩) ∧ Hid (Mod (· = g) w wr) ∧ Hid (wr.heap.size = w.heap.size) ∧ a ≤ line.size ∧ c ≤ 4 * a)
  case atStart =>
    refine ⟨n, A, B, rfl, rfl, by omega, by omega, rfl, ?_, ?_, ?_, by omega, by omega⟩
    · exact Lib.hid (Cur.set3 (Cur.set2 (Cur.set1 (hC.drewN _) rfl) rfl) rfl)
    · exact Lib.hid (mod_set (mod_set (mod_set ((Mod.refl _ _).drewN _) _) _) _)
    · exact Lib.hid (by simp)
  case round =>
    obtain ⟨m, a, c, rfl, hq, hm, hm0, hI, hC', hM, hS, b1, b2⟩ := hrel
    obtain ⟨c0, c1, c2, c3⟩ := hC'.out.cells
    obtain ⟨f0, f1, f2, f3⟩ := hC'.out.frozens
    simp only at c1 c2 c3
    by_cases hpos : 0 < m
    · have hd : decide ((0 : Int) < m) = true := by simpa using hpos
      by_cases hlt : a < line.size
      · obtain ⟨b, hb, hbb⟩ := bt_get line a hlt
        have hbt := bt_at line a
        have hnx := nxt_le c b
        have ha0 : (0 : Int) ≤ (a : Int) := by omega
        have ha1 : (a : Int) < (line.size : Int) := by omega
        have hnI := Lib.hid (show nxtI (c : Int) (bt line a) = (nxt c b : Nat) by rw [hbb]; exact nxtI_eq _ _)
        have Hb := Lib.hid hb
        clear hb hbb
        go_wp2
        go_quiet (fail)
        go_wp2
        refine still_tail 17 (by kernel_rfl) (by kernel_rfl) ?_
        simp only [List.take_succ_cons, List.take_zero, List.drop_succ_cons, List.drop_zero]
        repeat still_step
        still_call (next_still _ _ _ (by omega) (by omega))
        repeat still_step
        refine wpStill_nil ?_
        go_wp2
        go_roundg (m - 1).toNat
        case measure => have := hq.out; omega
        case rel =>
          refine ⟨m - 1, a + 1, nxt c b, rfl, rfl, by omega, by omega, ?_, ?_, ?_, ?_, by omega, by omega⟩
          · have := moves_step line.data.toList (m - 1).toNat a c 0 b Hb.out
            rw [show (m - 1).toNat + 1 = m.toNat from by omega] at this
            exact Lib.hid (this.symm.trans hI.out)
          · exact Lib.hid (Cur.set1 (Cur.set2 (hC'.out.drewN _) hnI.out) (by omega))
          · exact Lib.hid (mod_set (mod_set (hM.out.drewN _) _) _)
          · exact Lib.hid (by simp [hS.out])
      · have hd2 : decide ((a : Int) < (line.size : Int)) = false := by simp; omega
        go_wp2
        go_quiet (fail)
        go_wp2
        go_end0
        exact ⟨rfl, Moved.here (by rw [HA.out, HB.out, ← hI.out]; exact (moves_end _ _ _ (by rw [Hlen.out]; show line.size ≤ a; omega)).symm) hC'.out hM.out hS.out (Dr.of _ _)⟩
    · have hd : decide ((0 : Int) < m) = false := by simp; omega
      go_wp2
      go_quiet (fail)
      go_wp2
      go_end0
      exact ⟨rfl, Moved.here (by rw [HA.out, HB.out, ← hI.out, show m.toNat = 0 from by omega]; rfl) hC'.out hM.out hS.out (Dr.of _ _)⟩
end Go.Proofs.Ytbmflpojcgocaaa
