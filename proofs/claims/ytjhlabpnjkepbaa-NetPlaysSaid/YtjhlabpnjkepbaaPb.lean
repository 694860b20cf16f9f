/-
  NetPlays: one step on both.
-/
import Derived.Test.YtjhlabpnjkepbaaPa
import Derived.IntWalk
namespace Go.Proofs.Ytjhlabpnjkepbaa
open Go.RowKit Mem
set_option linter.unusedVariables false

/-- The step in its box. -/
def InBox (B : Nat) (w : World) (q : Nat) (k a b : Int) (sd : Nat) (bb : List UInt8) (wx : World) : Prop :=
  ∃ d, Blk wx q #[.int .i64 k, .int .i64 a, .int .i64 b, d, .int .u64 sd] 34 ∧ Mod (fun _ => False) w wx ∧ Old B wx d bb ∧ bb.length ≤ 1000 ∧ w.heap.size ≤ q

set_option maxRecDepth 100000 in
set_option maxHeartbeats 6400000 in
theorem does_any (B g h s : Nat) (v x : Value) (L : List Let) (k a b : Int) (d : Value) (bb : List UInt8) (sd : Nat) (w : World) (hS : Side B w g h v x L s) (hB : B ≤ w.heap.size) (hd : Old B w d bb) (hsd : sd < 18446744073709551616)
    (ha : -9223372036854775808 ≤ a) (ha' : a ≤ 9223372036854775807) (hb : -9223372036854775808 ≤ b) (hb' : b ≤ 9223372036854775807) :
    Calls Try.prog 9 #[.pointer (some ⟨g, 0, none⟩), .pointer (some ⟨h, 0, none⟩), .agg #[.int .i64 k, .int .i64 a, .int .i64 b, d, .int .u64 sd]] w fun e w' => e = .returned (.bool true) ∧ SideK B w g h v x w' := by
  obtain ⟨Ad, c, rfl, hcl⟩ := hd.form
  have HS := Lib.hid hS
  have HD := Lib.hid hd
  have HB := Lib.hid hB
  clear hS hd
  go_enter Try.func9, Try.ntmps9
  go_upto_if 24 with (fail)
  go_cut [] (fun wx => Hid (InBox B w w.heap.size k a b sd (bb.take 1000) wx))
  case first =>
    have hnew := Blk.new w #[.int .i64 k, .int .i64 a, .int .i64 b, .slice Ad bb.length c, .int .u64 sd] 34
    have hm : Mod (fun _ => False) w (w.alloc (.cells #[.int .i64 k, .int .i64 a, .int .i64 b, .slice Ad bb.length c, .int .u64 sd] 34)) := (Mod.refl _ _).alloc _
    by_cases h1 : bb.length ≤ 1000
    · have hfin : InBox B w w.heap.size k a b sd (bb.take 1000) (w.alloc (.cells #[.int .i64 k, .int .i64 a, .int .i64 b, .slice Ad bb.length c, .int .u64 sd] 34)) := ⟨_, hnew, hm, by rw [List.take_of_length_le h1]; exact HD.out.mod hm (fun _ h => h.elim), by rw [List.length_take]; omega, Nat.le_refl _⟩
      have Hfin := Lib.hid hfin
      clear hfin hnew hm
      go_wp2
      go_meet
      case rel => exact Hfin
    · have hnew2 := Blk.new w #[.int .i64 k, .int .i64 a, .int .i64 b, .slice Ad 1000 c, .int .u64 sd] 34
      have hm2 : Mod (fun _ => False) w (w.alloc (.cells #[.int .i64 k, .int .i64 a, .int .i64 b, .slice Ad 1000 c, .int .u64 sd] 34)) := (Mod.refl _ _).alloc _
      have hfin : InBox B w w.heap.size k a b sd (bb.take 1000) (w.alloc (.cells #[.int .i64 k, .int .i64 a, .int .i64 b, .slice Ad 1000 c, .int .u64 sd] 34)) :=
        ⟨.slice Ad 1000 c, hnew2, hm2, (HD.out.cut (by omega)).mod hm2 (fun _ h => h.elim), by rw [List.length_take]; omega, Nat.le_refl _⟩
      have Hfin := Lib.hid hfin
      clear hfin hnew hm hnew2 hm2
      go_wp2
      go_meet
      case rel => exact Hfin
  case rest =>
    obtain ⟨d', hbox, hmw, hold, hbl, hq⟩ := hcut.out
    obtain ⟨Ad', c', rfl, hcl'⟩ := hold.form
    generalize bb.take 1000 = b1 at *
    have hS1 := HS.out.new hmw
    have hB1 : B ≤ wc.heap.size := Nat.le_trans hB hmw.size
    obtain ⟨q, hq'⟩ : ∃ q, w.heap.size = q := ⟨_, rfl⟩
    rw [hq'] at hbox hq ⊢
    have e0 : wc.cell? ⟨q, 0, none⟩ = some (.int .i64 k) := hbox.cell 0
    have e1 : wc.cell? ⟨q, 1, none⟩ = some (.int .i64 a) := hbox.cell 1
    have e2 : wc.cell? ⟨q, 2, none⟩ = some (.int .i64 b) := hbox.cell 2
    have e3 : wc.cell? ⟨q, 3, none⟩ = some (.slice Ad' b1.length c') := hbox.cell 3
    have e4 : wc.cell? ⟨q, 4, none⟩ = some (.int .u64 sd) := hbox.cell 4
    have hql := hbox.lt
    have HQ := Lib.hid hq'
    have HBX := Lib.hid hbox
    have HMW := Lib.hid hmw
    have HO := Lib.hid hold
    have HS1 := Lib.hid hS1
    clear hq' hbox hmw hold hS1 hcut hq HD
    by_cases k1 : k = 1
    · subst k1
      obtain ⟨gl, kl, W1, hr1, hby1, hm1⟩ := lend_run HO.out hbl hB1
      have Hby := Lib.hid hby1
      have Hm1 := Lib.hid hm1
      have f0 : W1.cell? ⟨q, 1, none⟩ = some (.int .i64 a) := cell_mod hm1 e1 (fun h => h)
      have f1 : W1.cell? ⟨q, 2, none⟩ = some (.int .i64 b) := cell_mod hm1 e2 (fun h => h)
      clear hby1 hm1
      go_wp2_with (at_builtin; refine wpList_append_run rfl _ _ 32 32 rfl _ _ rfl rfl hr1 ?_)
      refine (send_any B g s v L wc W1 HS1.out.n Hm1.out a b _ b1 Hby.out.rd (by omega) ha ha' hb hb').mono ?_
      rintro e W2 ⟨rfl, hk2⟩
      have HK := Lib.hid hk2
      have hL0 : LentK gl b1.length W2 W2 := LentK.start (w0 := wc) (HS1.out.n.new Hm1.out (fun _ h => h.elim)) hk2 Hby.out
      have HL0 := Lib.hid hL0
      clear hk2 hL0 hr1
      go_wp2
      go_loopw [8] (fun i wr => ∃ j : Nat, i = .int .i64 j ∧ j ≤ b1.length ∧ Hid (LentK gl b1.length W2 wr)) (fun i _ => b1.length - (intOf i).toNat)
      case atStart => exact ⟨0, rfl, by omega, HL0⟩
      case round =>
        obtain ⟨j, rfl, hj, hL⟩ := hrel
        by_cases hlt : j < b1.length
        · obtain ⟨⟨y, hy⟩, hf, hn⟩ := hL.out.at_ j hlt (.int .u8 7)
          have Hn := Lib.hid hn
          clear hn hL
          go_wp2
          go_roundw
          case rel => exact ⟨j + 1, by go_num, by omega, Hn⟩
          case measure => simp [intOf]; omega
        · obtain rfl : b1.length = j := by omega
          have hkk : Kept B g v (sent L a b b1) s wc wr := by
            have hb := own_lt Hby.out (g := gl) rfl
            exact kept_lent HK.out Hm1.out hL.out.1 hb.1 hb.2
          have hr0 := HS1.out.r.aft HS1.out.n hkk.mod
          have ht := rd_text (HO.out.n HS1.out.n hkk.mod).rd
          have hbx := blk_n HS1.out.n HBX.out hkk.mod
          have g1 : wr.cell? ⟨q, 1, none⟩ = some (.int .i64 a) := hbx.cell 1
          have g2 : wr.cell? ⟨q, 2, none⟩ = some (.int .i64 b) := hbx.cell 2
          have g3 : wr.cell? ⟨q, 3, none⟩ = some (.slice Ad' b1.length c') := hbx.cell 3
          have HKK := Lib.hid hkk
          clear hkk hbx hL
          go_wp2_with (fail)
          refine (rsend_any B h s x L a b b1 wr hr0).mono ?_
          rintro e W4 ⟨rfl, hr4⟩
          have hfin := SideK.from_ HMW.out (side_nr HS1.out HKK.out (Mod.refl _ _) hr4 (Mod.refl _ _) (HS1.out.good.sent hbl))
          have Hfin := Lib.hid hfin
          clear hfin hr4 hr0
          go_wp2
          go_ret
          exact ⟨rfl, Hfin.out⟩
    by_cases k2 : k = 2
    · subst k2
      go_wp2_with (fail)
      refine (take_any B g s v L a wc HS1.out.n HS1.out.good).mono ?_
      intro e W1 hk
      obtain ⟨v2, rfl, hby, hkp⟩ := took_t hk
      have hr0 := HS1.out.r.aft HS1.out.n hkp.mod
      have hbx := blk_n HS1.out.n HBX.out hkp.mod
      have g1 : W1.cell? ⟨q, 1, none⟩ = some (.int .i64 a) := hbx.cell 1
      have HK := Lib.hid hkp
      have Hby := Lib.hid hby
      have HR0 := Lib.hid hr0
      clear hk hkp hbx hby hr0
      go_wp2_with (fail)
      refine (rtake_any B h s x L a W1 HR0.out).mono ?_
      rintro e W2 ⟨rfl, hr2⟩
      rw [lval_cells]
      have hby2 := Hby.out.aft HR0.out hr2.mod_
      have hfin := fun o => SideK.from_ HMW.out (side_nr HS1.out HK.out (Mod.refl _ _) hr2 ((Mod.refl (fun _ => False) W2).alloc o) HS1.out.good.taken)
      generalize tl L s a = l at *
      generalize takeOk L s a = tk at *
      have ht := rd_text (hby2.rd.mod ((Mod.refl (fun _ => False) W2).alloc (.cells #[.int .i64 l.f, .int .i64 l.t, .string ⟨l.b.toArray⟩] 39)) (fun _ _ h => h))
      have Hfin := Lib.hid hfin
      clear hfin hr2 hby2
      cases tk
      all_goals
        go_wp2
        go_ret
        exact ⟨rfl, Hfin.out _⟩
    by_cases k3 : k = 3
    · subst k3
      have hgl : ∀ l ∈ L, l.b.length ≤ 1000000 := fun l hl => (HS1.out.good l hl).1
      have HGL := Lib.hid hgl
      clear hgl
      have HN := Lib.hid (HS1.out.n.new ((Mod.refl (fun _ => False) wc).drew) (fun _ h => h.elim))
      have HR := Lib.hid (HS1.out.r.new ((Mod.refl (fun _ => False) wc).drew) (fun _ h => h.elim))
      have HBD : Hid (Blk wc.drew q #[.int .i64 3, .int .i64 a, .int .i64 b, .slice Ad' b1.length c', .int .u64 sd] 34) := Lib.hid HBX.out
      go_wp2
      go_region_held3 (fun w' => w'.cell? ⟨q, 1, none⟩ = some (.int .i64 a)) (first | exact e1 | exact hc8 | exact hc7)
        (first
          | (go_at_call 13; ((with_reducible refine (copy_any B g s v L a wc.drew HN.out HGL.out).mono ?_); rintro e w7 ⟨rfl, hk7⟩; have hb7 := blk_n HN.out HBD.out hk7.mod; have hc7 : w7.cell? ⟨q, 1, none⟩ = some (.int .i64 a) := hb7.cell 1; have hR7 := HR.out.aft HN.out hk7.mod))
          | (go_at_call 20; ((with_reducible refine (rcopy_any B h s x L a wc.drew HR.out).mono ?_); rintro e w7 ⟨rfl, hk7⟩; have hb7 := blk_r HR.out HBD.out hk7.mod_; have hc7 : w7.cell? ⟨q, 1, none⟩ = some (.int .i64 a) := hb7.cell 1; have hN7 := HN.out.aft HR.out hk7.mod_))
          | (go_at_call 13; ((with_reducible refine (copy_any B g s v L a w7 hN7 HGL.out).mono ?_); rintro e w8 ⟨rfl, hk8⟩; have hb8 := blk_n hN7 hb7 hk8.mod; have hc8 : w8.cell? ⟨q, 1, none⟩ = some (.int .i64 a) := hb8.cell 1))
          | (go_at_call 20; ((with_reducible refine (rcopy_any B h s x L a w7 hR7).mono ?_); rintro e w8 ⟨rfl, hk8⟩; have hb8 := blk_r hR7 hb7 hk8.mod_; have hc8 : w8.cell? ⟨q, 1, none⟩ = some (.int .i64 a) := hb8.cell 1)))
      all_goals
        have hD : Mod (fun _ => False) wc wc.drew := (Mod.refl _ wc).drew
        have hfin : SideK B w g h v x w8 := by
          refine SideK.from_ (HMW.out.trans hD (fun _ h => h.elim)) ?_
          first
            | exact side_nr (HS1.out.new hD) hk7 (Mod.refl _ _) hk8 (Mod.refl _ _) HS1.out.good.copied
            | exact side_rn (HS1.out.new hD) hk7 (Mod.refl _ _) hk8 (Mod.refl _ _) HS1.out.good.copied
        have Hfin := Lib.hid hfin
        clear hfin hk7 hk8 hb7 hb8 hc7 hc8
        generalize copyOk L a = ok at *
        cases ok
        all_goals
          go_wp2
          go_ret
          exact ⟨rfl, Hfin.out⟩
    by_cases k4 : k = 4
    · subst k4
      have HN := Lib.hid (HS1.out.n.new ((Mod.refl (fun _ => False) wc).drew) (fun _ h => h.elim))
      have HR := Lib.hid (HS1.out.r.new ((Mod.refl (fun _ => False) wc).drew) (fun _ h => h.elim))
      have HBD : Hid (Blk wc.drew q #[.int .i64 4, .int .i64 a, .int .i64 b, .slice Ad' b1.length c', .int .u64 sd] 34) := Lib.hid HBX.out
      go_wp2
      go_region_held3 (fun w' => w'.cell? ⟨q, 1, none⟩ = some (.int .i64 a) ∧ w'.cell? ⟨q, 2, none⟩ = some (.int .i64 b)) (first | exact ⟨e1, e2⟩ | exact ⟨hc8, hd8⟩ | exact ⟨hc7, hd7⟩)
        (first
          | (go_at_call 14; ((with_reducible refine (move_any B g s v L wc.drew HN.out a b).mono ?_); rintro e w7 ⟨rfl, hk7⟩; have hb7 := blk_n HN.out HBD.out hk7.mod; have hc7 : w7.cell? ⟨q, 1, none⟩ = some (.int .i64 a) := hb7.cell 1; have hd7 : w7.cell? ⟨q, 2, none⟩ = some (.int .i64 b) := hb7.cell 2; have hR7 := HR.out.aft HN.out hk7.mod))
          | (go_at_call 21; ((with_reducible refine (rmove_any B h s x L a b wc.drew HR.out).mono ?_); rintro e w7 ⟨rfl, hk7⟩; have hb7 := blk_r HR.out HBD.out hk7.mod_; have hc7 : w7.cell? ⟨q, 1, none⟩ = some (.int .i64 a) := hb7.cell 1; have hd7 : w7.cell? ⟨q, 2, none⟩ = some (.int .i64 b) := hb7.cell 2; have hN7 := HN.out.aft HR.out hk7.mod_))
          | (go_at_call 14; ((with_reducible refine (move_any B g s v L w7 hN7 a b).mono ?_); rintro e w8 ⟨rfl, hk8⟩; have hb8 := blk_n hN7 hb7 hk8.mod; have hc8 : w8.cell? ⟨q, 1, none⟩ = some (.int .i64 a) := hb8.cell 1; have hd8 : w8.cell? ⟨q, 2, none⟩ = some (.int .i64 b) := hb8.cell 2))
          | (go_at_call 21; ((with_reducible refine (rmove_any B h s x L a b w7 hR7).mono ?_); rintro e w8 ⟨rfl, hk8⟩; have hb8 := blk_r hR7 hb7 hk8.mod_; have hc8 : w8.cell? ⟨q, 1, none⟩ = some (.int .i64 a) := hb8.cell 1; have hd8 : w8.cell? ⟨q, 2, none⟩ = some (.int .i64 b) := hb8.cell 2)))
      all_goals
        have hD : Mod (fun _ => False) wc wc.drew := (Mod.refl _ wc).drew
        have hfin : SideK B w g h v x w8 := by
          refine SideK.from_ (HMW.out.trans hD (fun _ h => h.elim)) ?_
          first
            | exact side_nr (HS1.out.new hD) hk7 (Mod.refl _ _) hk8 (Mod.refl _ _) HS1.out.good.moved
            | exact side_rn (HS1.out.new hD) hk7 (Mod.refl _ _) hk8 (Mod.refl _ _) HS1.out.good.moved
        have Hfin := Lib.hid hfin
        clear hfin hk7 hk8 hb7 hb8 hc7 hc8 hd7 hd8
        generalize moveOk L a b = ok at *
        cases ok
        all_goals
          go_wp2
          go_ret
          exact ⟨rfl, Hfin.out⟩
    by_cases k5 : k = 5
    · subst k5
      go_wp2_with (fail)
      refine (split_any B g s v L wc HS1.out.n sd hsd).mono ?_
      rintro e W1 ⟨rfl, hn1, hm1, _⟩
      have hkp := net_split hn1 hm1
      have hr0 := HS1.out.r.aft HS1.out.n hkp.mod
      have hbx := blk_n HS1.out.n HBX.out hkp.mod
      have g4 : W1.cell? ⟨q, 4, none⟩ = some (.int .u64 sd) := hbx.cell 4
      obtain ⟨c0, c1, f0, f1⟩ := hr0.cells
      have hfin := SideK.from_ HMW.out (side_nr HS1.out hkp (Mod.refl _ _) (ref_split hr0 hsd) (Mod.refl _ _) HS1.out.good)
      have Hfin := Lib.hid hfin
      clear hfin hkp hr0 hbx hn1 hm1
      go_wp2
      go_ret
      exact ⟨rfl, Hfin.out⟩
    by_cases k6 : k = 6
    · subst k6
      have hfin := fun n => SideK.from_ HMW.out (side_same HS1.out ((Mod.refl (fun _ => False) wc).drewN n))
      have Hfin := Lib.hid hfin
      clear hfin
      go_wp2
      go_quiet ((first
        | (go_at_call 17; exact quiet_dr (reach_any g v s a b _ (HS1.out.n.blk.drewN _) HS1.out.n.sides ha ha' hb hb'))
        | (go_at_call 22; exact quiet_dr (rreach_any B h s x L a b _ (HS1.out.r.new ((Mod.refl (fun _ => False) wc).drewN _) (fun _ h => h.elim))))))
      generalize reach s a b = ok at *
      cases ok
      all_goals
        go_wp2
        go_ret
        exact ⟨rfl, Hfin.out _⟩
    · have k1' : (k == 1) = false := by simpa using k1
      have k2' : (k == 2) = false := by simpa using k2
      have k3' : (k == 3) = false := by simpa using k3
      have k4' : (k == 4) = false := by simpa using k4
      have k5' : (k == 5) = false := by simpa using k5
      have k6' : (k == 6) = false := by simpa using k6
      clear k1 k2 k3 k4 k5 k6
      go_wp2_with (fail)
      refine (look_any B g s v L a wc HS1.out.n (fun l hl => (HS1.out.good l hl).1)).mono ?_
      intro e W1 hk
      obtain ⟨v2, rfl, hby, hm1⟩ := looked_t hk
      have hr0 := HS1.out.r.new hm1 (fun _ h => h.elim)
      have g1 : W1.cell? ⟨q, 1, none⟩ = some (.int .i64 a) := cell_mod hm1 e1 (fun h => h)
      have Hm1 := Lib.hid hm1
      have Hby := Lib.hid hby
      have HR0 := Lib.hid hr0
      clear hk hm1 hby hr0
      go_wp2_with (fail)
      refine (rlook_any B h s x L a W1 HR0.out).mono ?_
      rintro e W2 ⟨rfl, hm2⟩
      rw [lval_cells]
      have hfin := fun o => SideK.from_ HMW.out (side_same HS1.out ((Hm1.out.trans hm2 (fun _ h => h.elim)).alloc o))
      generalize rl L a = l at *
      generalize hasOk L a = tk at *
      have ht := rd_text (Hby.out.rd.mod (hm2.alloc (.cells #[.int .i64 l.f, .int .i64 l.t, .string ⟨l.b.toArray⟩] 39)) (fun _ _ h => h))
      have Hfin := Lib.hid hfin
      clear hfin hm2
      cases tk
      all_goals
        go_wp2
        go_ret
        exact ⟨rfl, Hfin.out _⟩
end Go.Proofs.Ytjhlabpnjkepbaa
