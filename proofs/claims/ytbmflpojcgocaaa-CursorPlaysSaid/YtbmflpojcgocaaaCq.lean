/-
  Contracts of the document's own cursor, on: Skip, Indent, Behind, Blank, Next, Rest, Move.
-/
import Derived.Test.YtbmflpojcgocaaaCr
namespace Go.Proofs.Ytbmflpojcgocaaa
open Go.RowKit Mem Pl

/-- What the document's Skip leaves. -/
def RSkipped (g : Nat) (line : ByteArray) (s : St) (n : Int) (w : World) (e : Ending) (w' : World) : Prop :=
  e = .returned (.int .i64 ((iter line.data.toList n.toNat s).col - s.col : Int)) ∧ RCur w' g line (iter line.data.toList n.toNat s) ∧ Mod (· = g) w w' ∧ w'.heap.size = w.heap.size
theorem iter_snoc (l : List UInt8) (n : Nat) (s s' : St) (h : step1 l (iter l n s) = some s') : iter l (n + 1) s = s' := by
  rw [iter_add]; simp [iter, h]
theorem iter_none (l : List UInt8) (n k : Nat) (s : St) (h : step1 l (iter l k s) = none) (hk : k ≤ n) : iter l n s = iter l k s := by
  rw [show n = k + (n - k) from by omega, iter_add, iter_stop l _ _ h]

set_option maxHeartbeats 1600000 in
theorem rskip_any (g : Nat) (line : ByteArray) (s : St) (n : Int) (w : World) (hC : RCur w g line s) (hF : Ok line.data.toList s) (hl : line.size ≤ 3100) :
    Calls Try.prog 14 #[.pointer (some ⟨g, 0, none⟩), .int .i64 n] w (RSkipped g line s n w) := by
  have HF := Lib.hid hF
  clear hF
  go_enter Try.func14, Try.ntmps14
  go_wp2
  go_loopg [5, 6] n.toNat (fun q v u wr => ∃ k : Nat, v = .int .i64 k ∧ Hid ((n - k).toNat = q) ∧ ((k : Int) ≤ n ∨ k = 0) ∧ Hid ((iter line.data.toList k s).col = s.col + k) ∧ Hid (RCur wr g line (iter line.data.toList k s)) ∧ Hid (Mod (· = g) w wr) ∧ Hid (wr.heap.size = w.heap.size))
  case atStart => exact ⟨0, rfl, by show (n - 0).toNat = _; simp, .inr rfl, rfl, hC, Mod.refl _ _, rfl⟩
  case round =>
    obtain ⟨k, rfl, hq, hk, hc, hC', hM, hS⟩ := hrel
    have hok := ok_iter line.data.toList k s HF.out
    have hkb : k ≤ 20000 := by
      obtain ⟨o1, o2, o3⟩ := hok
      rw [size_list] at o1
      have := hc.out
      omega
    by_cases hlt : (k : Int) < n
    · go_wp2_with fail
      refine (rstep_any g line _ _ hC'.out hok hl).mono ?_
      rintro e w2 ⟨hM2, hS2, hres⟩
      have hM3 := Lib.hid (hM.out.trans hM2 (fun _ h => .inl h))
      have hS3 := Lib.hid (hS2.trans hS.out)
      clear hM2 hS2 hok
      rcases hres with ⟨hs, rfl, hC2⟩ | ⟨s2, hs, rfl, hC2⟩
      · have hfin := Lib.hid (iter_none line.data.toList n.toNat k s hs (by omega))
        clear hs
        have HC2 := Lib.hid hC2
        clear hC2
        go_wp2
        go_ret
        refine ⟨?_, ?_, hM3.out, hS3.out⟩
        · rw [hfin.out, hc.out]; exact ret_int (by omega)
        · rw [hfin.out]; exact HC2.out
      · have hnext := Lib.hid (iter_snoc line.data.toList k s s2 hs)
        have hcol := Lib.hid (Pl.step_end line.data.toList _ _ hs).2.2.1
        clear hs
        have HC2 := Lib.hid hC2
        clear hC2
        go_wp2
        go_roundg (n - (k + 1 : Nat)).toNat
        case measure => have := hq.out; omega
        case rel =>
          refine ⟨k + 1, by go_num, rfl, .inl (by omega), ?_, ?_, hM3, hS3⟩
          · exact Lib.hid (by rw [hnext.out, hcol.out, hc.out]; omega)
          · exact Lib.hid (by rw [hnext.out]; exact HC2.out)
    · have hkn : k = n.toNat := by omega
      have Hkn := Lib.hid hkn
      clear hkn hok
      go_wp2
      go_ret
      refine ⟨?_, ?_, hM.out, hS.out⟩
      · rw [← Hkn.out, hc.out]; exact ret_int (by omega)
      · rw [← Hkn.out]; exact hC'.out

/-- All columns. -/
theorem iter_big (l : List UInt8) (n : Nat) (s : St) (h : Ok l s) (hn : 4 * (l.length - s.at_) + 4 ≤ n) : iter l n s = ⟨endAt l s, endCol l s, 0⟩ := by
  have hb := end_bd l s h.1
  have h3 := h.2.2
  have hst := iter_all l n s (by omega) (by omega)
  obtain ⟨z1, z2, z3⟩ := stop_end l _ hst
  obtain ⟨i1, i2, _, _⟩ := iter_end l n s
  rw [i1] at z2
  rw [i2] at z3
  generalize iter l n s = t at *
  cases t
  simp only [St.mk.injEq]
  exact ⟨z2.symm, z3.symm, z1⟩

set_option maxHeartbeats 800000 in
theorem rindent_any (g : Nat) (line : ByteArray) (s : St) (w : World) (hC : RCur w g line s) (hF : Ok line.data.toList s) (hl : line.size ≤ 3100) :
    Calls Try.prog 17 #[.pointer (some ⟨g, 0, none⟩)] w fun e w' => e = .returned (.int .i64 (endCol line.data.toList s - s.col : Int)) ∧ Mod (fun _ => False) w w' := by
  obtain ⟨c0, c1, c2⟩ := hC.cells
  obtain ⟨L, hL⟩ : ∃ L, tl line s.at_ = L := ⟨_, rfl⟩
  have hLs := tl_size line s.at_
  rw [hL] at c0 hLs
  have HL := Lib.hid hL
  have HLs := Lib.hid hLs
  have hb : L.size ≤ 3100 := by omega
  have hc0 : ∀ o, (w.alloc o).cell? ⟨g, 0, none⟩ = some (.string L) := fun o => (Below.cell ((Below.refl _ w).alloc (Nat.le_refl _) o) (World.block_lt_of_cell? w _ c0)).trans c0
  have hbox : RCur (w.alloc (.cells #[.string L, .int .i64 s.part, .int .i64 s.col] 32)) w.heap.size line s := by
    unfold RCur; rw [hL]; exact Blk.new _ _ _
  have hsz : 4 * (line.data.toList.length - s.at_) + 4 ≤ ((L.size : Int) * 4 + 4).toNat := by rw [size_list]; omega
  have hfin := iter_big line.data.toList _ s hF hsz
  have Hfin := Lib.hid hfin
  have Hbox := Lib.hid hbox
  clear hL hLs hbox hsz hfin
  go_enter Try.func17, Try.ntmps17
  go_wp2_with fail
  refine (rskip_any w.heap.size line s _ _ Hbox.out hF hl).mono ?_
  rintro e w2 ⟨rfl, _, hM2, _⟩
  rw [Hfin.out]
  have hM3 : Mod (fun _ => False) w w2 := ((Mod.refl _ w).alloc _).trans hM2 (fun i hi => .inr (by omega))
  clear hM2
  go_wp2
  go_ret
  exact ⟨rfl, hM3⟩

set_option maxHeartbeats 800000 in
theorem rbehind_any (g : Nat) (line : ByteArray) (s : St) (w : World) (hC : RCur w g line s) (hF : Ok line.data.toList s) (hl : line.size ≤ 3100) :
    Calls Try.prog 23 #[.pointer (some ⟨g, 0, none⟩)] w fun e w' => e = .returned (.string (line.extract (endAt line.data.toList s) line.size)) ∧ w = w' := by
  obtain ⟨c0, c1, c2⟩ := hC.cells
  obtain ⟨L, hL⟩ : ∃ L, tl line s.at_ = L := ⟨_, rfl⟩
  have hLs := tl_size line s.at_
  have hLb := tl_bt line s.at_
  have hLt : ∀ i, L.extract i L.size = line.extract (s.at_ + i) line.size := fun i => by rw [← hL]; exact tl_tl line s.at_ i
  rw [hL] at c0 hLs hLb
  have h1 := hF.1
  have H1 := Lib.hid h1
  rw [size_list] at h1
  have HLs := Lib.hid hLs
  have HLb := Lib.hid hLb
  have HLt := Lib.hid hLt
  have hb : L.size ≤ 3100 := by omega
  clear hL hLs hLb hLt
  go_enter Try.func23, Try.ntmps23
  go_wp2
  go_loop [3] (fun i => ∃ k : Nat, i = .int .i64 k ∧ k ≤ L.size ∧ Hid (∀ j, j < k → ∃ b, line.data.toList[s.at_ + j]? = some b ∧ isBl b = true)) (fun i => L.size - (intOf i).toNat)
  case atStart => exact ⟨0, rfl, Nat.zero_le _, Lib.hid (fun j h => absurd h (by omega))⟩
  case round =>
    obtain ⟨k, rfl, hk, hall⟩ := hrel
    have hbt := bt_at L k
    by_cases hlt : k < L.size
    · obtain ⟨b, hb, hbb⟩ := bt_get line (s.at_ + k) (by have := HLs.out; omega)
      have hLb := HLb.out k
      rw [hbb] at hLb
      have Hbb := Lib.hid hLb
      clear hbb hLb
      cases hbl : isBl b with
      | true =>
        have hb2 := (bl_iff b).1 hbl
        have hall2 : Hid (∀ j, j < k + 1 → ∃ b, line.data.toList[s.at_ + j]? = some b ∧ isBl b = true) := Lib.hid (fun j hj => by
          by_cases e : j = k
          · subst e; exact ⟨b, hb, hbl⟩
          · exact hall.out j (by omega))
        clear hb hbl
        by_cases h32 : (b.toNat : Int) = 32
        · have e32 : (bt L k != 32) = false := by rw [bne_eq_false_iff_eq, Hbb.out]; exact h32
          clear h32 hb2
          go_wp2
          go_round
          case rel => exact ⟨k + 1, by go_num, by omega, hall2⟩
          case measure => simp [intOf]; omega
        · have e32 : (bt L k != 32) = true := by rw [bne_iff_ne, Hbb.out]; exact h32
          have e9 : (bt L k != 9) = false := by rw [bne_eq_false_iff_eq, Hbb.out]; omega
          clear h32 hb2
          go_wp2
          go_round
          case rel => exact ⟨k + 1, by go_num, by omega, hall2⟩
          case measure => simp [intOf]; omega
      | false =>
        have hb2 : ¬ ((b.toNat : Int) = 32 ∨ (b.toNat : Int) = 9) := by rw [← bl_iff, hbl]; simp
        have e32 : (bt L k != 32) = true := by rw [bne_iff_ne, Hbb.out]; omega
        have e9 : (bt L k != 9) = true := by rw [bne_iff_ne, Hbb.out]; omega
        have hend := Lib.hid (endAt_is line.data.toList s k H1.out hall.out (fun b' hb' => by rw [hb] at hb'; obtain rfl := Option.some.inj hb'; exact hbl))
        have hcut := HLt.out k
        have Hcut := Lib.hid hcut
        clear hb hbl hb2 hcut
        go_wp2
        go_ret
        rw [hend.out, Hcut.out]
        exact ⟨rfl, rfl⟩
    · have hend := Lib.hid (endAt_is line.data.toList s k H1.out hall.out (fun b' hb' => by
        have := (List.getElem?_eq_some_iff.1 hb').1
        rw [size_list] at this
        have := HLs.out
        omega))
      have he : (⟨#[]⟩ : ByteArray) = line.extract (s.at_ + k) line.size := by
        apply str_inj
        rw [ext_list, List.drop_of_length_le (by rw [size_list]; have := HLs.out; omega)]
      have He := Lib.hid he
      clear he
      go_wp2
      go_ret
      rw [hend.out, ← He.out]
      exact ⟨rfl, rfl⟩

theorem rblank_any (g : Nat) (line : ByteArray) (s : St) (w : World) (hC : RCur w g line s) (hF : Ok line.data.toList s) (hl : line.size ≤ 3100) :
    Calls Try.prog 19 #[.pointer (some ⟨g, 0, none⟩)] w fun e w' => e = .returned (.bool (decide (endAt line.data.toList s = line.size))) ∧ w = w' := by
  have h1 := end_bd line.data.toList s hF.1
  rw [size_list] at h1
  go_enter Try.func19, Try.ntmps19
  go_wp2_with (go_at_call 23; refine (rbehind_any g line s _ hC hF hl).mono ?_; rintro e w' ⟨rfl, rfl⟩)
  go_ret
  exact ⟨ret_bool (by rw [ext_empty]; exact decide_eq_decide.2 (by omega)), rfl⟩

theorem rnext_any (g : Nat) (line : ByteArray) (s : St) (w : World) (hC : RCur w g line s) (hF : Ok line.data.toList s) (hl : line.size ≤ 3100) :
    Calls Try.prog 21 #[.pointer (some ⟨g, 0, none⟩)] w fun e w' => e = .returned (.int .u8 (bt line (endAt line.data.toList s))) ∧ w = w' := by
  have h1 := end_bd line.data.toList s hF.1
  rw [size_list] at h1
  by_cases hlt : endAt line.data.toList s < line.size
  · have he : (line.extract (endAt line.data.toList s) line.size).toList.isEmpty = false := by rw [ext_empty, decide_eq_false (by omega)]
    have hg : 0 < line.size - endAt line.data.toList s := by omega
    have hx := ext_get line _ hlt
    go_enter Try.func21, Try.ntmps21
    go_wp2_with (go_at_call 23; refine (rbehind_any g line s _ hC hF hl).mono ?_; rintro e w' ⟨rfl, rfl⟩)
    go_ret
    exact ⟨rfl, rfl⟩
  · have he : (line.extract (endAt line.data.toList s) line.size).toList.isEmpty = true := by rw [ext_empty, decide_eq_true (by omega)]
    go_enter Try.func21, Try.ntmps21
    go_wp2_with (go_at_call 23; refine (rbehind_any g line s _ hC hF hl).mono ?_; rintro e w' ⟨rfl, rfl⟩)
    go_ret
    exact ⟨ret_int (by simp [bt, hlt]), rfl⟩

/-- A text and another one. -/
theorem run_add (x y z : ByteArray) (h : x.size + y.size ≤ 10000) (he : x ++ y = z) (w : World) : (Op.stringOp .add x y).run Try.prog w = .ok (.string z) w := by
  subst he
  exact run_string_add_sum (P := Try.prog) w x y (by omega)
def bl (n : Nat) : ByteArray := str (List.replicate n 32)
theorem bl_size (n : Nat) : (bl n).size = n := by simp [bl, str, ByteArray.size]
theorem bl_snoc (n : Nat) : bl n ++ ⟨#[32]⟩ = bl (n + 1) := by
  apply str_inj
  rw [ByteArray.data_append, Array.toList_append]
  simp [bl, str, List.replicate_succ']

set_option maxHeartbeats 800000 in
theorem rrest_any (g : Nat) (line : ByteArray) (s : St) (w : World) (hC : RCur w g line s) (hF : Ok line.data.toList s) (hl : line.size ≤ 3100) :
    Calls Try.prog 22 #[.pointer (some ⟨g, 0, none⟩)] w fun e w' => e = .returned (.string (str (restOf line s))) ∧ w = w' := by
  obtain ⟨c0, c1, c2⟩ := hC.cells
  have h3 := hF.2.2
  obtain ⟨L, hL⟩ : ∃ L, tl line s.at_ = L := ⟨_, rfl⟩
  have hLs := tl_size line s.at_
  rw [hL] at c0 hLs
  have hfin : ∀ n, n = s.part → bl n ++ L = str (restOf line s) := fun n hn => by
    subst hn
    apply str_inj
    rw [← hL, ByteArray.data_append, Array.toList_append, tl_list, str_list]
    simp [bl, str_list, restOf]
  have Hfin := Lib.hid hfin
  have hb : L.size ≤ 3100 := by omega
  clear hL hLs hfin
  go_enter Try.func22, Try.ntmps22
  go_wp2
  go_loop [3, 4] (fun v i => ∃ k : Nat, i = .int .i64 k ∧ k ≤ s.part ∧ v = .string (bl k)) (fun _ i => s.part - (intOf i).toNat)
  case atStart => exact ⟨0, rfl, Nat.zero_le _, rfl⟩
  case round =>
    obtain ⟨k, rfl, hk, rfl⟩ := hrel
    have hbs := bl_size k
    by_cases hlt : k < s.part
    · have had := run_add (bl k) ⟨#[32]⟩ (bl (k + 1)) (by rw [hbs]; show k + 1 ≤ _; omega) (bl_snoc k)
      clear hbs
      go_wp2
      go_round
      case rel => exact ⟨k + 1, by go_num, by omega, rfl⟩
      case measure => simp [intOf]; omega
    · have had := run_add (bl k) L _ (by rw [hbs]; omega) (Hfin.out k (by omega))
      clear hbs
      go_wp2
      go_ret
      exact ⟨rfl, rfl⟩
end Go.Proofs.Ytbmflpojcgocaaa
