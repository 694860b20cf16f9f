/-
  Contracts of cursor's functions that go on: Skip, Move.
-/
import Derived.Test.YtbmflpojcgocaaaCb
namespace Go.Proofs.Ytbmflpojcgocaaa
open Go.RowKit Mem Pl

/-- What Skip leaves. -/
def Skipped (g : Nat) (line : ByteArray) (s : St) (n : Int) (w : World) (e : Ending) (w' : World) : Prop :=
  e = .returned (.int .i64 ((iter line.data.toList n.toNat s).col - s.col : Int)) ∧ Cur w' g line (iter line.data.toList n.toNat s) ∧ Mod (· = g) w w' ∧ w'.heap.size = w.heap.size

theorem Skipped.here {g : Nat} {line : ByteArray} {s s' : St} {n m : Int} {w wr wx : World} (hI : iter line.data.toList m.toNat s' = iter line.data.toList n.toNat s) (hs : iter line.data.toList m.toNat s' = s')
    (hC : Cur wr g line s') (hM : Mod (· = g) w wr) (hS : wr.heap.size = w.heap.size) (hd : Dr wr wx) : Skipped g line s n w (.returned (.int .i64 ((s'.col : Int) - s.col))) wx := by
  have h : s' = iter line.data.toList n.toNat s := hs.symm.trans hI
  unfold Skipped
  rw [← h]
  exact ⟨rfl, hC.dr hd, hM.trans (hd.mod (S := fun _ => False)) (fun _ hf => hf.elim), by rw [hd.heap, hS]⟩

/-- A tab taken up, if none was: what the first half of a round leaves. -/
def SkipMid (g : Nat) (line : ByteArray) (m : Int) (s' : St) (w wx : World) : Prop :=
  ∃ s2 : St, 1 ≤ s2.part ∧ s2.part ≤ 4 ∧ s2.at_ ≤ line.size ∧ s2.col + s2.part ≤ 4 * s2.at_ ∧ Cur wx g line s2 ∧ Mod (· = g) w wx ∧ wx.heap.size = w.heap.size ∧ iter line.data.toList m.toNat s' = iter line.data.toList m.toNat s2

set_option maxRecDepth 100000 in
set_option maxHeartbeats 1600000 in
theorem skip_any (g : Nat) (line : ByteArray) (s : St) (n : Int) (w : World) (hC : Cur w g line s) (hF : Fits line s) (hp : s.part ≤ 4) (hn0 : -9223372036854775808 ≤ n) (hn : n ≤ 9223372036854775807) :
    Calls Try.prog 9 #[.pointer (some ⟨g, 0, none⟩), .int .i64 n] w (Skipped g line s n w) := by
  have hcs := hC.cells
  have hlen := size_list line
  have hF1 := hF.at_
  have hF2 := hF.line
  have hF3 := hF.col
  obtain ⟨c0, c1, c2, c3⟩ := hcs
  go_enter Try.func9, Try.ntmps9
  go_wp2
  clear c0 c1 c2 c3
  go_loopg [1, 6] n.toNat (fun q v u wr => ∃ (m : Int) (s' : St), v = .int .i64 m ∧ Hid (m.toNat = q) ∧ m ≤ n ∧ -9223372036854775808 ≤ m ∧ Hid (iter line.data.toList m.toNat s' = iter line.data.toList n.toNat s) ∧ Hid (Cur wr g line s') ∧ Hid (Mod (· = g) w wr) ∧ Hid (wr.heap.size = w.heap.size) ∧ s'.at_ ≤ line.size ∧ s'.col + s'.part ≤ 4 * s'.at_ ∧ s'.part ≤ 4)
  case atStart => exact ⟨n, s, rfl, rfl, by omega, by omega, rfl, hC, Mod.refl _ _, rfl, hF1, hF3, hp⟩
  case round =>
    obtain ⟨m, s', rfl, hq, hm, hm0, hI, hC', hM, hS, b1, b2, b3⟩ := hrel
    obtain ⟨c0, c1, c2, c3⟩ := hC'.out.cells
    obtain ⟨f0, f1, f2, f3⟩ := hC'.out.frozens
    by_cases hpos : 0 < m
    · go_upto_if 17 with fail
      go_cut [] (fun wx => SkipMid g line m s' wr wx)
      case first =>
        by_cases hpart : s'.part = 0
        · have hp0 : ((s'.part : Int) == 0) = true := by rw [beq_iff_eq]; omega
          have hbt := bt_at line s'.at_
          by_cases hlt : s'.at_ < line.size
          · obtain ⟨b, hb, hbb⟩ := bt_get line s'.at_ hlt
            have Hb := Lib.hid hbb
            clear hbb
            have hne : ((s'.at_ : Int) == (line.size : Int)) = false := by rw [beq_eq_false_iff_ne]; omega
            have ha0 : (0 : Int) ≤ (s'.at_ : Int) := by omega
            have ha1 : (s'.at_ : Int) < (line.size : Int) := by omega
            cases hbl : isBl b with
            | true =>
              have hb2 := (bl_iff b).1 hbl
              have hnx := nxt_le s'.col b
              have hng := nxt_gt s'.col b
              have hnI := Lib.hid (show nxtI (s'.col : Int) (bt line s'.at_) = (nxt s'.col b : Nat) by rw [Hb.out]; exact nxtI_eq _ _)
              have Hbb := Lib.hid hb
              have Hbl := Lib.hid hbl
              have Hp := Lib.hid hpart
              clear hb hbl hpart
              have fin : ∀ wx : World, Cur wx g line ⟨s'.at_ + 1, s'.col, nxt s'.col b - s'.col⟩ → Mod (· = g) wr wx → wx.heap.size = wr.heap.size → SkipMid g line m s' wr wx := fun wx h1 h2 h3 =>
                ⟨_, (by show 1 ≤ nxt s'.col b - s'.col; omega), (by show nxt s'.col b - s'.col ≤ 4; omega), (by show s'.at_ + 1 ≤ line.size; omega), (by show s'.col + (nxt s'.col b - s'.col) ≤ 4 * (s'.at_ + 1); omega), h1, h2, h3, by
                  have := iter_up line.data.toList s'.at_ s'.col m.toNat b Hbb.out Hbl.out (by omega)
                  rw [← this]; congr 1; cases s'; simp only [St.mk.injEq, true_and]; exact Hp.out⟩
              have Fin := Lib.hid fin
              clear fin
              by_cases h32 : (b.toNat : Int) = 32
              · have e32 : (bt line s'.at_ != 32) = false := by rw [bne_eq_false_iff_eq, Hb.out]; exact h32
                clear h32 hb2
                go_wp2
                go_quiet (fail)
                go_wp2
                refine still_tail 22 (by kernel_rfl) (by kernel_rfl) ?_
                simp only [List.take_succ_cons, List.take_zero, List.drop_succ_cons, List.drop_zero]
                repeat still_step
                still_call (next_still _ _ _ (by omega) (by omega))
                repeat still_step
                refine wpStill_nil ?_
                go_wp2
                go_meet
                case rel =>
                  refine Fin.out _ ?_ ?_ ?_
                  · refine Cur.set1 (Cur.set3 (hC'.out.drewN _) ?_) ?_
                    · rw [hnI.out]; unfold wrap64; omega
                    · omega
                  · exact mod_set (mod_set ((Mod.refl _ _).drewN _) _) _
                  · simp
              · have e32 : (bt line s'.at_ != 32) = true := by rw [bne_iff_ne, Hb.out]; exact h32
                have e9 : (bt line s'.at_ != 9) = false := by rw [bne_eq_false_iff_eq, Hb.out]; omega
                clear h32 hb2
                go_wp2
                go_quiet (fail)
                go_wp2
                refine still_tail 22 (by kernel_rfl) (by kernel_rfl) ?_
                simp only [List.take_succ_cons, List.take_zero, List.drop_succ_cons, List.drop_zero]
                repeat still_step
                still_call (next_still _ _ _ (by omega) (by omega))
                repeat still_step
                refine wpStill_nil ?_
                go_wp2
                go_meet
                case rel =>
                  refine Fin.out _ ?_ ?_ ?_
                  · refine Cur.set1 (Cur.set3 (hC'.out.drewN _) ?_) ?_
                    · rw [hnI.out]; unfold wrap64; omega
                    · omega
                  · exact mod_set (mod_set ((Mod.refl _ _).drewN _) _) _
                  · simp
            | false =>
              have hb2 : ¬ ((b.toNat : Int) = 32 ∨ (b.toNat : Int) = 9) := by rw [← bl_iff, hbl]; simp
              have e32 : (bt line s'.at_ != 32) = true := by rw [bne_iff_ne, Hb.out]; omega
              have e9 : (bt line s'.at_ != 9) = true := by rw [bne_iff_ne, Hb.out]; omega
              clear hb2
              have hs1 : step1 line.data.toList s' = none := by simp [step1, hpart, hb, hbl]
              have Hs1 := Lib.hid hs1
              clear hb hbl hs1 hpart
              go_wp2
              go_quiet (fail)
              go_wp2
              go_ret
              exact Skipped.here hI.out (iter_stop _ _ _ Hs1.out) hC'.out hM.out hS.out (Dr.of _ _)
          · have hne : ((s'.at_ : Int) == (line.size : Int)) = true := by rw [beq_iff_eq]; omega
            have hs1 : step1 line.data.toList s' = none := by
              have : line.data.toList[s'.at_]? = none := by rw [List.getElem?_eq_none_iff]; omega
              simp [step1, hpart, this]
            have Hs1 := Lib.hid hs1
            clear hs1 hpart
            go_wp2
            go_quiet (fail)
            go_wp2
            go_ret
            exact Skipped.here hI.out (iter_stop _ _ _ Hs1.out) hC'.out hM.out hS.out (Dr.of _ _)
        · have hp0 : ((s'.part : Int) == 0) = false := by rw [beq_eq_false_iff_ne]; omega
          go_wp2
          go_meet
          case rel => exact ⟨s', by omega, by omega, b1, b2, hC'.out, Mod.refl _ _, rfl, rfl⟩
      case rest =>
        clear c0 c1 c2 c3 f0 f1 f2 f3
        obtain ⟨s2, p1, p2, p3, p4, hC2, hM2, hS2, hI2⟩ := hcut
        obtain ⟨c0, c1, c2, c3⟩ := hC2.cells
        obtain ⟨f0, f1, f2, f3⟩ := hC2.frozens
        have HC2 := Lib.hid hC2
        have HM2 := Lib.hid hM2
        have HS2 := Lib.hid hS2
        have HI2 := Lib.hid hI2
        clear hC2 hM2 hS2 hI2
        have fin : ∀ (k : Nat) (wx : World), 1 ≤ k → k ≤ s2.part → (k : Int) ≤ m → iter line.data.toList (m - k).toNat ⟨s2.at_, s2.col + k, s2.part - k⟩ = iter line.data.toList n.toNat s := fun k wx h1 h2 h3 => by
          rw [← hI.out, HI2.out, iter_some line.data.toList k m.toNat s2 h2 (by omega), show (m - (k : Int)).toNat = m.toNat - k from by omega]
        have Fin := Lib.hid fin
        clear fin
        by_cases hlt : (s2.part : Int) < m
        · go_wp2
          go_roundg (m - s2.part).toNat
          case measure => have := hq.out; omega
          case rel =>
            refine ⟨_, ⟨s2.at_, s2.col + s2.part, s2.part - s2.part⟩, rfl, rfl, by omega, by omega, Fin.out s2.part wc (by omega) (by omega) (by omega), ?_, ?_, ?_, p3, by simp; omega, by simp⟩
            · refine Lib.hid (Cur.set2 (Cur.set3 HC2.out ?_) ?_) <;> omega
            · exact mod_set (mod_set (hM.out.trans HM2.out (fun _ h => .inl h)) _) _
            · exact Lib.hid (by simp [HS2.out, hS.out])
        · go_wp2
          go_roundg 0
          case measure => have := hq.out; omega
          case rel =>
            refine ⟨0, ⟨s2.at_, s2.col + m.toNat, s2.part - m.toNat⟩, rfl, rfl, by omega, by omega, ?_, ?_, ?_, ?_, p3, by simp; omega, by simp; omega⟩
            · have := Fin.out m.toNat wc (by omega) (by omega) (by omega)
              rw [show m - (m.toNat : Int) = 0 from by omega] at this
              exact this
            · refine Lib.hid (Cur.set2 (Cur.set3 HC2.out ?_) ?_) <;> omega
            · exact mod_set (mod_set (hM.out.trans HM2.out (fun _ h => .inl h)) _) _
            · exact Lib.hid (by simp [HS2.out, hS.out])
    · go_wp2
      go_ret
      exact Skipped.here hI.out (by rw [show m.toNat = 0 from by omega]; rfl) hC'.out hM.out hS.out (Dr.refl _)
end Go.Proofs.Ytbmflpojcgocaaa
