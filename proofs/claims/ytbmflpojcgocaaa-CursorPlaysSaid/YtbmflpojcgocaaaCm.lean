/-
  The contract of the document's Move.
-/
import Derived.Test.YtbmflpojcgocaaaCq
namespace Go.Proofs.Ytbmflpojcgocaaa
open Go.RowKit Mem Pl

/-- What the document's Move leaves. -/
def RMoved (g : Nat) (line : ByteArray) (s : St) (w w' : World) : Prop := RCur w' g line s ∧ Mod (· = g) w w'
theorem RMoved.here {g : Nat} {line : ByteArray} {s s' : St} {w wr wx : World} (h : s' = s) (hC : RCur wr g line s') (hM : Mod (· = g) w wr) (hd : Dr wr wx) : RMoved g line s w wx := by
  subst h
  exact ⟨hC.dr hd, hM.trans (hd.mod (S := fun _ => False)) (fun _ hf => hf.elim)⟩
theorem width_still (c : Int) (w : World) (h0 : 0 ≤ c) : Calls Try.prog 28 #[.int .i64 c] w fun e w' => e = .returned (.int .i64 (4 - c % 4)) ∧ w' = w :=
  (width_any c w h0).mono fun _ _ ⟨he, hw⟩ => ⟨he, hw.symm⟩

set_option maxRecDepth 100000 in
set_option maxHeartbeats 1600000 in
theorem rmove_any (g : Nat) (line : ByteArray) (s : St) (n : Int) (w : World) (hC : RCur w g line s) (hF : Ok line.data.toList s) (hl : line.size ≤ 3100) (hn : n ≤ 9223372036854775807) :
    Calls Try.prog 16 #[.pointer (some ⟨g, 0, none⟩), .int .i64 n] w fun e w' => e = .returned (.tuple #[]) ∧ RMoved g line (moves line.data.toList n.toNat ⟨endAt line.data.toList s, endCol line.data.toList s, 0⟩) w w' := by
  obtain ⟨c0, c1, c2⟩ := hC.cells
  obtain ⟨L, hL⟩ : ∃ L, tl line s.at_ = L := ⟨_, rfl⟩
  have hLs := tl_size line s.at_
  rw [hL] at c0 hLs
  have hE := end_bd line.data.toList s hF.1
  have hF' := hF
  obtain ⟨o1, o2, o3⟩ := hF
  rw [size_list] at hE o1
  have hb : L.size ≤ 3100 := by omega
  have hsz : 4 * (line.data.toList.length - s.at_) + 4 ≤ ((L.size : Int) * 4 + 4).toNat := by rw [size_list]; omega
  have hfin := iter_big line.data.toList _ s hF' hsz
  have Hfin := Lib.hid hfin
  clear hL hLs hsz hfin
  go_enter Try.func16, Try.ntmps16
  go_wp2_with fail
  refine (rskip_any g line s _ _ hC hF' hl).mono ?_
  rintro e w2 ⟨rfl, hC2, hM2, _⟩
  rw [Hfin.out] at hC2
  have HC2 := Lib.hid hC2
  have HM2 := Lib.hid hM2
  clear c0 c1 c2 hC2 hM2
  generalize hA : endAt line.data.toList s = A at *
  generalize hB : endCol line.data.toList s = B at *
  have HA := Lib.hid hA
  have HB := Lib.hid hB
  clear hA hB
  go_wp2
  go_loopg [4] n.toNat (fun q v wr => ∃ j a c : Nat, v = .int .i64 j ∧ Hid (n.toNat - j = q) ∧ j ≤ a ∧ Hid (moves line.data.toList (n.toNat - j) ⟨a, c, 0⟩ = moves line.data.toList n.toNat ⟨A, B, 0⟩) ∧ Hid (RCur wr g line ⟨a, c, 0⟩) ∧ Hid (Mod (· = g) w wr) ∧ a ≤ line.size ∧ c ≤ 4 * a)
  case atStart => exact ⟨0, A, B, rfl, rfl, by omega, rfl, HC2, HM2, by omega, by omega⟩
  case round =>
    obtain ⟨j, a, c, rfl, hq, hja, hI, hC', hM, b1, b2⟩ := hrel
    obtain ⟨c0, c1, c2⟩ := hC'.out.cells
    obtain ⟨f0, f1, f2⟩ := hC'.out.frozens
    obtain ⟨L1, hL1⟩ : ∃ L1, tl line a = L1 := ⟨_, rfl⟩
    have hLe := tl_empty line a
    have hLs := tl_size line a
    have hLb := tl_bt line a 0
    have hLt := tl_tl line a 1
    simp only at c0 c1 c2
    rw [hL1] at c0 hLe hLs hLb hLt
    have HL1 := Lib.hid hL1
    clear hL1
    by_cases hlt : (j : Int) < n
    · by_cases hne : a < line.size
      · obtain ⟨b, hb, hbb⟩ := bt_get line a hne
        rw [Nat.add_zero, hbb] at hLb
        have hbt := bt_at L1 0
        have he : (!L1.toList.isEmpty) = true := by rw [hLe, decide_eq_false (by omega)]; rfl
        have hpos : 0 < L1.size := by omega
        have HLb := Lib.hid hLb
        have HLt := Lib.hid hLt
        have Hb := Lib.hid hb
        have hng := nxt_le c b
        have hstep : Hid (moves line.data.toList (n.toNat - (j + 1)) ⟨a + 1, nxt c b, 0⟩ = moves line.data.toList n.toNat ⟨A, B, 0⟩) := by
          have := moves_step line.data.toList (n.toNat - (j + 1)) a c 0 b hb
          rw [show n.toNat - (j + 1) + 1 = n.toNat - j from by omega] at this
          exact Lib.hid (this.symm.trans hI.out)
        clear hLe hLs hLb hLt hb hbb
        by_cases h9 : (b.toNat : Int) = 9
        · have e9 : (bt L1 0 == 9) = true := by rw [beq_iff_eq, HLb.out]; exact h9
          have hnx : Hid (nxt c b = c / 4 * 4 + 4) := by
            have : b = 9 := UInt8.toNat_inj.1 (by simpa using (by omega : b.toNat = 9))
            subst this; exact Lib.hid (by simp [nxt])
          clear h9
          go_wp2
          refine still_tail 13 (by kernel_rfl) (by kernel_rfl) ?_
          simp only [List.take_succ_cons, List.take_zero, List.drop_succ_cons, List.drop_zero]
          repeat still_step
          still_call (width_still _ _ (by omega))
          repeat still_step
          refine wpStill_nil ?_
          go_wp2
          go_roundg (n.toNat - (j + 1))
          case measure => have := hq.out; omega
          case rel =>
            refine ⟨j + 1, a + 1, nxt c b, by go_num, rfl, by omega, hstep, ?_, ?_, by omega, by omega⟩
            · exact Lib.hid (RCur.set0 (RCur.set2 (hC'.out.drewN 1) (by have := hnx.out; omega)) HLt.out)
            · exact Lib.hid (mod_set (mod_set (hM.out.drewN 1) _) _)
        · have e9 : (bt L1 0 == 9) = false := by rw [beq_eq_false_iff_ne, HLb.out]; exact h9
          have hnx : Hid (nxt c b = c + 1) := by
            refine Lib.hid ?_
            unfold nxt
            rw [if_neg (by rintro rfl; exact h9 (by decide))]
          clear h9
          go_wp2
          go_roundg (n.toNat - (j + 1))
          case measure => have := hq.out; omega
          case rel =>
            refine ⟨j + 1, a + 1, nxt c b, by go_num, rfl, by omega, hstep, ?_, ?_, by omega, by omega⟩
            · exact Lib.hid (RCur.set0 (RCur.set2 hC'.out (by have := hnx.out; omega)) HLt.out)
            · exact Lib.hid (mod_set (mod_set hM.out _) _)
      · have he : (!L1.toList.isEmpty) = false := by rw [hLe, decide_eq_true (by omega)]; rfl
        have hs : Hid ((⟨a, c, 0⟩ : St) = moves line.data.toList n.toNat ⟨A, B, 0⟩) := Lib.hid (by
          rw [← hI.out]; exact (moves_end _ _ _ (by rw [size_list]; show line.size ≤ a; omega)).symm)
        clear hLe hLs hLb hLt
        go_wp2
        go_end0
        exact ⟨rfl, RMoved.here (by rw [HA.out, HB.out]; exact hs.out) hC'.out hM.out (Dr.refl _)⟩
    · have hs : Hid ((⟨a, c, 0⟩ : St) = moves line.data.toList n.toNat ⟨A, B, 0⟩) := Lib.hid (by
        rw [← hI.out, show n.toNat - j = 0 from by omega]; rfl)
      clear hLe hLs hLb hLt
      go_wp2
      go_end0
      exact ⟨rfl, RMoved.here (by rw [HA.out, HB.out]; exact hs.out) hC'.out hM.out (Dr.refl _)⟩
end Go.Proofs.Ytbmflpojcgocaaa
