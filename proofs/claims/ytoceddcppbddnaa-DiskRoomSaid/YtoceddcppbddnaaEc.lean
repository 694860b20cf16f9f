/-
  DiskRenames' walk.
-/
import Derived.Test.YtoceddcppbddnaaEb
namespace Go.Proofs.Ytoceddcppbddnaa
open Go.RowKit Mem Go.Maps
set_option linter.unusedVariables false
set_option linter.unusedSimpArgs false

/-- An armed disk. -/
def fz (fs : List Fl) (a : Int) (k : Nat) : Ab := ⟨1099511627776, fs, false, some (a, k), 0⟩
theorem deed_tick {fs : List Fl} {a : Int} {k : Nat} {f : Ab → Ab} (h : a ≠ 0) : deedA (fz fs a k) f = (f (fz fs (a - 1) k), 0) := by
  unfold deedA blowsA tickA fz
  dsimp only
  rw [if_neg h]
theorem deed_blow {fs : List Fl} {k : Nat} {f : Ab → Ab} : deedA (fz fs 0 k) f = (crashA k (fz fs 0 k), 13) := rfl
theorem fz_append {fs : List Fl} {n b : Bs} {a : Int} {k : Nat} (hn : nmA n = true) (h : totA fs + b.length ≤ 1000000) : appendA (fz fs a k) n b = deedA (fz (putA fs n b) a k) (fun A => A) := by
  rw [append_ok rfl hn]
  · rfl
  · show (b.length : Int) ≤ 1099511627776 - ((totA fs : Nat) : Int)
    omega
/-- What is there behind the three calls: the old bytes, or the new ones. -/
def Renamed (old fresh : Bs) (a : Nat) (k : Nat) (A3 : Ab) (E : Int) : Prop :=
  (a = 3 ∧ E = 0 ∧ readA (startA A3) nf = (fresh, 0) ∧ (readA (startA A3) nn_).2 = 15) ∨ (a ≠ 3 ∧ E = 13 ∧ readA (startA A3) nf = (old, 0))
theorem crash_fz (k : Nat) (old x : Bs) (m : Nat) (a : Int) : crashA k (fz [(nf, old, old.length), (nn_, x, m)] a k) = down [(nf, old, old.length), (nn_, x.take (nn k 1 (nn_, x, m)), nn k 1 (nn_, x, m))] 1 := by
  show down [(nf, old.take (nn k 0 (nf, old, old.length)), nn k 0 (nf, old, old.length)), (nn_, x.take (nn k 1 (nn_, x, m)), nn k 1 (nn_, x, m))] (0 + 1) = _
  rw [nn_full (p := (nf, old, old.length)) rfl]
  show down [(nf, old.take old.length, old.length), _] _ = _
  rw [List.take_length]
  rfl
theorem renamed_all (old fresh : Bs) (a k : Nat) (ha : a < 4) (hs : old.length + fresh.length ≤ 100000) :
    let R1 := appendA (fz [(nf, old, old.length)] a k) nn_ fresh
    let R2 := syncA R1.1 nn_
    let R3 := renameA R2.1 nn_ nf
    R1.1.falls < 1000000 ∧ R2.1.falls < 1000000 ∧ R3.1.falls < 1000000 ∧ Renamed old fresh a k R3.1 R3.2 := by
  have h1 : appendA (fz [(nf, old, old.length)] a k) nn_ fresh = deedA (fz [(nf, old, old.length), (nn_, fresh, 0)] a k) (fun A => A) := by
    rw [fz_append (by decide) (by simp [totA]; omega)]; rfl
  dsimp only
  rw [h1]
  have hs2 : ∀ b : Int, syncA (fz [(nf, old, old.length), (nn_, fresh, 0)] b k) nn_ = deedA (fz [(nf, old, old.length), (nn_, fresh, 0)] b k) (fun A => withFs A (setA A.fs nn_ fresh fresh.length)) := fun b => rfl
  have hs3 : ∀ b : Int, renameA (fz [(nf, old, old.length), (nn_, fresh, fresh.length)] b k) nn_ nf = deedA (fz [(nf, old, old.length), (nn_, fresh, fresh.length)] b k) (fun A => withFs A (insA (nf, fresh, fresh.length) (delA (delA A.fs nn_) nf))) := fun b => rfl
  have hd1 : ∀ fs : List Fl, syncA (down fs 1) nn_ = (down fs 1, 13) := fun fs => rfl
  have hd2 : ∀ fs : List Fl, renameA (down fs 1) nn_ nf = (down fs 1, 13) := fun fs => rfl
  have hr : ∀ (x : Bs) (m : Nat), readA (startA (down [(nf, old, old.length), (nn_, x, m)] 1)) nf = (old, 0) := fun x m => rfl
  match a, ha with
  | 0, _ =>
    have e : ((0 : Nat) : Int) = 0 := rfl
    rw [e, deed_blow, crash_fz, hd1, hd2]
    exact ⟨by show (1 : Int) < _; decide, by show (1 : Int) < _; decide, by show (1 : Int) < _; decide, .inr ⟨by decide, rfl, hr _ _⟩⟩
  | 1, _ =>
    have e : ((1 : Nat) : Int) = 1 := rfl
    rw [e, deed_tick (by decide)]
    dsimp only
    rw [show (1 : Int) - 1 = 0 from rfl, hs2, deed_blow, crash_fz, hd2]
    exact ⟨by show (0 : Int) < _; decide, by show (1 : Int) < _; decide, by show (1 : Int) < _; decide, .inr ⟨by decide, rfl, hr _ _⟩⟩
  | 2, _ =>
    have e : ((2 : Nat) : Int) = 2 := rfl
    rw [e, deed_tick (by decide)]
    dsimp only
    rw [show (2 : Int) - 1 = 1 from rfl, hs2, deed_tick (by decide)]
    have e2 : (withFs (fz [(nf, old, old.length), (nn_, fresh, 0)] (1 - 1) k) (setA (fz [(nf, old, old.length), (nn_, fresh, 0)] (1 - 1) k).fs nn_ fresh fresh.length)) = fz [(nf, old, old.length), (nn_, fresh, fresh.length)] 0 k := rfl
    dsimp only
    rw [e2, hs3, deed_blow, crash_fz]
    exact ⟨by show (0 : Int) < _; decide, by show (0 : Int) < _; decide, by show (1 : Int) < _; decide, .inr ⟨by decide, rfl, hr _ _⟩⟩
  | 3, _ =>
    have e : ((3 : Nat) : Int) = 3 := rfl
    rw [e, deed_tick (by decide)]
    dsimp only
    rw [show (3 : Int) - 1 = 2 from rfl, hs2, deed_tick (by decide)]
    have e2 : (withFs (fz [(nf, old, old.length), (nn_, fresh, 0)] (2 - 1) k) (setA (fz [(nf, old, old.length), (nn_, fresh, 0)] (2 - 1) k).fs nn_ fresh fresh.length)) = fz [(nf, old, old.length), (nn_, fresh, fresh.length)] 1 k := rfl
    dsimp only
    rw [e2, hs3, deed_tick (by decide)]
    exact ⟨by show (0 : Int) < _; decide, by show (0 : Int) < _; decide, by show (0 : Int) < _; decide, .inl ⟨rfl, rfl, rfl, rfl⟩⟩
theorem arm_big (fs : List Fl) (a k : Nat) : armA (big fs) (a : Int) k = fz fs (a : Int) k := by
  show (⟨_, _, _, if (0 : Int) ≤ (a : Int) then _ else _, _⟩ : Ab) = _
  rw [if_pos (by omega)]
  rfl
theorem arm_big3 (fs : List Fl) (k : Nat) : armA (big fs) 3 k = fz fs ((3 : Nat) : Int) k := arm_big fs 3 k
theorem R1_tot {old fresh : Bs} {a k : Nat} (hs : old.length + fresh.length ≤ 100000) : totA (fz [(nf, old, old.length)] a k).fs + fresh.length ≤ 1099511627776 := by
  show (old.length + 0) + fresh.length ≤ _
  omega
theorem tmod4 {m : Nat} : ((m : Int)).tmod 4 = ((m % 4 : Nat) : Int) := by
  rw [Int.tmod_eq_emod_of_nonneg (by omega)]; omega
set_option maxRecDepth 100000 in
set_option maxHeartbeats 6400000 in
theorem renames_any (old fresh : Bs) (va vb : Value) (after : Int) (k : Nat) (w : World) (h1 : RdC w va old) (h2 : RdC w vb fresh) (hA : -9223372036854775808 ≤ after ∧ after ≤ 9223372036854775807) (hk : k < 18446744073709551616) (hs : old.length + fresh.length ≤ 4000000) :
    Calls Try.prog 7 #[va, vb, .int .i64 after, .int .u64 (k : Int)] w fun e w' => e = .returned (.bool true) ∧ Mod (fun _ => False) w w' := by
  have hsh := shown_any w
  obtain ⟨a1, c1, hv1, hc1, hm1⟩ := h1.2
  obtain ⟨a2, c2, hv2, hc2, hm2⟩ := h2.2
  subst hv1 hv2
  obtain ⟨l1, hl1⟩ : ∃ n, old.length = n := ⟨_, rfl⟩
  obtain ⟨l2, hl2⟩ : ∃ n, fresh.length = n := ⟨_, rfl⟩
  rw [hl1] at h1
  rw [hl2] at h2
  have H1 := Lib.hid h1
  have H2 := Lib.hid h2
  clear h1 h2
  rw [hl1, hl2]
  have e1 : IntKind.i64.wrap ((l1 : Int) + (l2 : Int)) = (l1 : Int) + (l2 : Int) := by rw [IntKind.wrap_i64]; omega
  by_cases hlong : (l1 : Int) + (l2 : Int) > 100000
  · go_enter Try.func7, Try.ntmps7
    go_wp2_with (fail)
    refine hsh.mono ?_
    rintro e w1 ⟨rfl, hM1⟩
    go_wp2_with (fail)
    refine (run_new w1 1099511627776 (by decide)).mono ?_
    rintro e w2 ⟨d, X2, rfl, s2⟩
    go_wp2
    go_ret
    exact ⟨rfl, hM1.trans s2.mod (fun _ h => h.elim)⟩
  · have hsum : old.length + fresh.length ≤ 100000 := by omega
    obtain ⟨m, hm⟩ : ∃ m : Nat, (after < 0 ∧ (m : Int) = -(after + 1)) ∨ (0 ≤ after ∧ (m : Int) = after) := by
      by_cases h0 : after < 0
      · exact ⟨(-(after + 1)).toNat, .inl ⟨h0, by omega⟩⟩
      · exact ⟨after.toNat, .inr ⟨by omega, by omega⟩⟩
    have hmod := tmod4 (m := m)
    obtain ⟨a, ha⟩ : ∃ a, m % 4 = a := ⟨_, rfl⟩
    rw [ha] at hmod
    have ha4 : a < 4 := by omega
    have HALL := Lib.hid (renamed_all old fresh a k ha4 hsum)
    have hM62 : (m : Int) ≤ 9223372036854775807 := by omega
    have q2 : IntKind.i64.wrap (after + 1) = after + 1 ∨ 0 ≤ after := by
      rcases hm with ⟨h0, _⟩ | ⟨h0, _⟩
      · left; rw [IntKind.wrap_i64]; omega
      · exact .inr h0
    obtain ⟨R3, hR3⟩ : ∃ R, renameA (syncA (appendA (fz [(nf, old, old.length)] a k) nn_ fresh).1 nn_).1 nn_ nf = R := ⟨_, rfl⟩
    have hfin : Renamed old fresh a k R3.1 R3.2 := by rw [← hR3]; exact (renamed_all old fresh a k ha4 hsum).2.2.2
    have HR3 := Lib.hid hR3
    clear ha hR3
    rcases hm with ⟨h0, hm⟩ | ⟨h0, hm⟩
    · rcases hfin with ⟨h3, hE, hr1, hr2⟩ | ⟨h3, hE, hr1⟩
      · subst h3
        have q3 : IntKind.i64.wrap (after + 1) = after + 1 := by rcases q2 with h | h; exact h; omega
        have q4 : IntKind.i64.wrap (-(after + 1)) = (m : Int) := by rw [IntKind.wrap_i64]; omega
        clear hm q2
        go_enter Try.func7, Try.ntmps7
        go_wp2_with (fail)
        refine hsh.mono ?_
        rintro e w1 ⟨rfl, hM1⟩
        go_wp2_with (fail)
        refine (run_new w1 1099511627776 (by decide)).mono ?_
        rintro e w2 ⟨d, X2, rfl, s2⟩
        replace s2 : Run w1 d X2 (big []) w2 := s2
        have HM := Lib.hid hM1
        clear hM1
        go_wp2_with (fail)
        refine (run_append s2 nf _ old ((H1.out.still HM.out).run s2).1 (by decide) (by decide) (by decide) (by show 0 + old.length ≤ _; omega)).mono ?_
        rintro e w3 ⟨X3, rfl, s3, -⟩
        rw [keeps1 (by omega)] at s3 ⊢
        go_wp2_with (fail)
        refine (run_sync s3 nf (by decide) (big_falls _)).mono ?_
        rintro e w4 ⟨X4, rfl, s4, -⟩
        rw [keeps2] at s4 ⊢
        go_wp2_with (fail)
        refine (run_arm s4 (3 : Int) k (by omega) hk).mono ?_
        rintro e w5 ⟨X5, rfl, s5, -⟩
        rw [arm_big3] at s5
        clear s2 s3 s4
        go_wp2_with (fail)
        refine (run_append s5 nn_ _ fresh ((H2.out.still HM.out).run s5).1 (by decide) (by show (0 : Int) < _; decide) (by show 1 < 1000; decide) (by show (old.length + 0) + fresh.length ≤ _; omega)).mono ?_
        rintro e w6 ⟨X6, rfl, s6, -⟩
        go_wp2_with (fail)
        refine (run_sync s6 nn_ (by decide) HALL.out.1).mono ?_
        rintro e w7 ⟨X7, rfl, s7, -⟩
        go_wp2_with (fail)
        refine (run_rename s7 nn_ nf (by decide) (by decide) HALL.out.2.1).mono ?_
        rintro e w8 ⟨X8, rfl, s8, -⟩
        rw [HR3.out] at s8 ⊢
        rw [hE]
        clear s5 s6 s7
        go_wp2_with (fail)
        refine (run_start s8).mono ?_
        rintro e w9 ⟨X9, rfl, s9, -⟩
        go_wp2_with (fail)
        refine (run_read s9 nf (by decide)).mono ?_
        rintro e w10 ⟨vb, rfl, rb, hm10⟩
        rw [hr1] at rb ⊢
        have s10 := s9.still hm10
        have tb := (rd_own rb).text
        obtain ⟨ab, cb, hvb, hcb1, hcb2⟩ := (rdc_own rb).2
        subst hvb
        have RB := Lib.hid rb
        clear s8 s9 hm10 tb rb
        go_wp2_with (fail)
        refine (run_read s10 nn_ (by decide)).mono ?_
        rintro e w11 ⟨vg, rfl, rg, hm11⟩
        have s11 := s10.still hm11
        rw [hr2]
        have tb := ((rd_own RB.out).mod hm11 (fun _ _ h => h)).text
        rw [hl2] at tb
        have tc := (((H2.out.still HM.out).run s11).1).text
        have ex : ((sv fresh).toList == (sv fresh).toList) = true := by simp
        have S11 := Lib.hid s11
        clear RB rg s10 s11 hm11
        go_wp2
        go_ret
        exact ⟨rfl, HM.out.trans S11.out.mod (fun _ h => h.elim)⟩
      · have q5 : ¬ (a : Int) = 3 := by omega
        have q3 : IntKind.i64.wrap (after + 1) = after + 1 := by rcases q2 with h | h; exact h; omega
        have q4 : IntKind.i64.wrap (-(after + 1)) = (m : Int) := by rw [IntKind.wrap_i64]; omega
        clear hm q2
        go_enter Try.func7, Try.ntmps7
        go_wp2_with (fail)
        refine hsh.mono ?_
        rintro e w1 ⟨rfl, hM1⟩
        go_wp2_with (fail)
        refine (run_new w1 1099511627776 (by decide)).mono ?_
        rintro e w2 ⟨d, X2, rfl, s2⟩
        replace s2 : Run w1 d X2 (big []) w2 := s2
        have HM := Lib.hid hM1
        clear hM1
        go_wp2_with (fail)
        refine (run_append s2 nf _ old ((H1.out.still HM.out).run s2).1 (by decide) (by decide) (by decide) (by show 0 + old.length ≤ _; omega)).mono ?_
        rintro e w3 ⟨X3, rfl, s3, -⟩
        rw [keeps1 (by omega)] at s3 ⊢
        go_wp2_with (fail)
        refine (run_sync s3 nf (by decide) (big_falls _)).mono ?_
        rintro e w4 ⟨X4, rfl, s4, -⟩
        rw [keeps2] at s4 ⊢
        go_wp2_with (fail)
        refine (run_arm s4 (a : Int) k (by omega) hk).mono ?_
        rintro e w5 ⟨X5, rfl, s5, -⟩
        rw [arm_big] at s5
        clear s2 s3 s4
        go_wp2_with (fail)
        refine (run_append s5 nn_ _ fresh ((H2.out.still HM.out).run s5).1 (by decide) (by show (0 : Int) < _; decide) (by show 1 < 1000; decide) (by show (old.length + 0) + fresh.length ≤ _; omega)).mono ?_
        rintro e w6 ⟨X6, rfl, s6, -⟩
        go_wp2_with (fail)
        refine (run_sync s6 nn_ (by decide) HALL.out.1).mono ?_
        rintro e w7 ⟨X7, rfl, s7, -⟩
        go_wp2_with (fail)
        refine (run_rename s7 nn_ nf (by decide) (by decide) HALL.out.2.1).mono ?_
        rintro e w8 ⟨X8, rfl, s8, -⟩
        rw [HR3.out] at s8 ⊢
        rw [hE]
        clear s5 s6 s7
        go_wp2_with (fail)
        refine (run_start s8).mono ?_
        rintro e w9 ⟨X9, rfl, s9, -⟩
        go_wp2_with (fail)
        refine (run_read s9 nf (by decide)).mono ?_
        rintro e w10 ⟨vb, rfl, rb, hm10⟩
        rw [hr1] at rb ⊢
        have s10 := s9.still hm10
        have tb := (rd_own rb).text
        obtain ⟨ab, cb, hvb, hcb1, hcb2⟩ := (rdc_own rb).2
        subst hvb
        have RB := Lib.hid rb
        clear s8 s9 hm10 tb rb
        go_wp2_with (fail)
        refine (run_read s10 nn_ (by decide)).mono ?_
        rintro e w11 ⟨vg, rfl, rg, hm11⟩
        have s11 := s10.still hm11
        have tb := ((rd_own RB.out).mod hm11 (fun _ _ h => h)).text
        rw [hl1] at tb
        have tc := (((H1.out.still HM.out).run s11).1).text
        have ex : ((sv old).toList == (sv old).toList) = true := by simp
        have S11 := Lib.hid s11
        clear RB rg s10 s11 hm11
        go_wp2
        go_ret
        exact ⟨rfl, HM.out.trans S11.out.mod (fun _ h => h.elim)⟩
    · rcases hfin with ⟨h3, hE, hr1, hr2⟩ | ⟨h3, hE, hr1⟩
      · subst h3
        obtain rfl : after = (m : Int) := hm.symm
        clear q2
        go_enter Try.func7, Try.ntmps7
        go_wp2_with (fail)
        refine hsh.mono ?_
        rintro e w1 ⟨rfl, hM1⟩
        go_wp2_with (fail)
        refine (run_new w1 1099511627776 (by decide)).mono ?_
        rintro e w2 ⟨d, X2, rfl, s2⟩
        replace s2 : Run w1 d X2 (big []) w2 := s2
        have HM := Lib.hid hM1
        clear hM1
        go_wp2_with (fail)
        refine (run_append s2 nf _ old ((H1.out.still HM.out).run s2).1 (by decide) (by decide) (by decide) (by show 0 + old.length ≤ _; omega)).mono ?_
        rintro e w3 ⟨X3, rfl, s3, -⟩
        rw [keeps1 (by omega)] at s3 ⊢
        go_wp2_with (fail)
        refine (run_sync s3 nf (by decide) (big_falls _)).mono ?_
        rintro e w4 ⟨X4, rfl, s4, -⟩
        rw [keeps2] at s4 ⊢
        go_wp2_with (fail)
        refine (run_arm s4 (3 : Int) k (by omega) hk).mono ?_
        rintro e w5 ⟨X5, rfl, s5, -⟩
        rw [arm_big3] at s5
        clear s2 s3 s4
        go_wp2_with (fail)
        refine (run_append s5 nn_ _ fresh ((H2.out.still HM.out).run s5).1 (by decide) (by show (0 : Int) < _; decide) (by show 1 < 1000; decide) (by show (old.length + 0) + fresh.length ≤ _; omega)).mono ?_
        rintro e w6 ⟨X6, rfl, s6, -⟩
        go_wp2_with (fail)
        refine (run_sync s6 nn_ (by decide) HALL.out.1).mono ?_
        rintro e w7 ⟨X7, rfl, s7, -⟩
        go_wp2_with (fail)
        refine (run_rename s7 nn_ nf (by decide) (by decide) HALL.out.2.1).mono ?_
        rintro e w8 ⟨X8, rfl, s8, -⟩
        rw [HR3.out] at s8 ⊢
        rw [hE]
        clear s5 s6 s7
        go_wp2_with (fail)
        refine (run_start s8).mono ?_
        rintro e w9 ⟨X9, rfl, s9, -⟩
        go_wp2_with (fail)
        refine (run_read s9 nf (by decide)).mono ?_
        rintro e w10 ⟨vb, rfl, rb, hm10⟩
        rw [hr1] at rb ⊢
        have s10 := s9.still hm10
        have tb := (rd_own rb).text
        obtain ⟨ab, cb, hvb, hcb1, hcb2⟩ := (rdc_own rb).2
        subst hvb
        have RB := Lib.hid rb
        clear s8 s9 hm10 tb rb
        go_wp2_with (fail)
        refine (run_read s10 nn_ (by decide)).mono ?_
        rintro e w11 ⟨vg, rfl, rg, hm11⟩
        have s11 := s10.still hm11
        rw [hr2]
        have tb := ((rd_own RB.out).mod hm11 (fun _ _ h => h)).text
        rw [hl2] at tb
        have tc := (((H2.out.still HM.out).run s11).1).text
        have ex : ((sv fresh).toList == (sv fresh).toList) = true := by simp
        have S11 := Lib.hid s11
        clear RB rg s10 s11 hm11
        go_wp2
        go_ret
        exact ⟨rfl, HM.out.trans S11.out.mod (fun _ h => h.elim)⟩
      · have q5 : ¬ (a : Int) = 3 := by omega
        obtain rfl : after = (m : Int) := hm.symm
        clear q2
        go_enter Try.func7, Try.ntmps7
        go_wp2_with (fail)
        refine hsh.mono ?_
        rintro e w1 ⟨rfl, hM1⟩
        go_wp2_with (fail)
        refine (run_new w1 1099511627776 (by decide)).mono ?_
        rintro e w2 ⟨d, X2, rfl, s2⟩
        replace s2 : Run w1 d X2 (big []) w2 := s2
        have HM := Lib.hid hM1
        clear hM1
        go_wp2_with (fail)
        refine (run_append s2 nf _ old ((H1.out.still HM.out).run s2).1 (by decide) (by decide) (by decide) (by show 0 + old.length ≤ _; omega)).mono ?_
        rintro e w3 ⟨X3, rfl, s3, -⟩
        rw [keeps1 (by omega)] at s3 ⊢
        go_wp2_with (fail)
        refine (run_sync s3 nf (by decide) (big_falls _)).mono ?_
        rintro e w4 ⟨X4, rfl, s4, -⟩
        rw [keeps2] at s4 ⊢
        go_wp2_with (fail)
        refine (run_arm s4 (a : Int) k (by omega) hk).mono ?_
        rintro e w5 ⟨X5, rfl, s5, -⟩
        rw [arm_big] at s5
        clear s2 s3 s4
        go_wp2_with (fail)
        refine (run_append s5 nn_ _ fresh ((H2.out.still HM.out).run s5).1 (by decide) (by show (0 : Int) < _; decide) (by show 1 < 1000; decide) (by show (old.length + 0) + fresh.length ≤ _; omega)).mono ?_
        rintro e w6 ⟨X6, rfl, s6, -⟩
        go_wp2_with (fail)
        refine (run_sync s6 nn_ (by decide) HALL.out.1).mono ?_
        rintro e w7 ⟨X7, rfl, s7, -⟩
        go_wp2_with (fail)
        refine (run_rename s7 nn_ nf (by decide) (by decide) HALL.out.2.1).mono ?_
        rintro e w8 ⟨X8, rfl, s8, -⟩
        rw [HR3.out] at s8 ⊢
        rw [hE]
        clear s5 s6 s7
        go_wp2_with (fail)
        refine (run_start s8).mono ?_
        rintro e w9 ⟨X9, rfl, s9, -⟩
        go_wp2_with (fail)
        refine (run_read s9 nf (by decide)).mono ?_
        rintro e w10 ⟨vb, rfl, rb, hm10⟩
        rw [hr1] at rb ⊢
        have s10 := s9.still hm10
        have tb := (rd_own rb).text
        obtain ⟨ab, cb, hvb, hcb1, hcb2⟩ := (rdc_own rb).2
        subst hvb
        have RB := Lib.hid rb
        clear s8 s9 hm10 tb rb
        go_wp2_with (fail)
        refine (run_read s10 nn_ (by decide)).mono ?_
        rintro e w11 ⟨vg, rfl, rg, hm11⟩
        have s11 := s10.still hm11
        have tb := ((rd_own RB.out).mod hm11 (fun _ _ h => h)).text
        rw [hl1] at tb
        have tc := (((H1.out.still HM.out).run s11).1).text
        have ex : ((sv old).toList == (sv old).toList) = true := by simp
        have S11 := Lib.hid s11
        clear RB rg s10 s11 hm11
        go_wp2
        go_ret
        exact ⟨rfl, HM.out.trans S11.out.mod (fun _ h => h.elim)⟩
end Go.Proofs.Ytoceddcppbddnaa
