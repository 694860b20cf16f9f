/-
  DiskKeeps' walk.
-/
import Derived.Test.YtoceddcppbddnaaEa
import Derived.OpenShut
namespace Go.Proofs.Ytoceddcppbddnaa
open Go.RowKit Mem Go.Maps
set_option linter.unusedVariables false
set_option linter.unusedSimpArgs false

theorem RdC.still {w w' : World} {v : Value} {b : Bs} (h : RdC w v b) (hm : Mod (fun _ => False) w w') : RdC w' v b := h.mod hm (fun _ _ h => h)
/-- A slice that came in: beside what the call makes. -/
theorem RdC.run {w w1 : World} {v : Value} {b : Bs} {d : Nat} {X : Dk} {A : Ab} (h : RdC w v b) (s : Run w d X A w1) : RdC w1 v b := h.still s.mod
/-- Rows that the call made, beside the disk. -/
theorem own_done {w w' : World} {base : Nat} {d : Nat} {X X' : Dk} {v : Value} {b : Bs} (h : w.ownsRow base 5 1 v b.length (bts b)) (hD : Done w w' d X X') (hf : ∀ g, v.ownBlock = some g → ¬ Foot d X g) : w'.ownsRow base 5 1 v b.length (bts b) := own_mod h hD.m hf
theorem big_falls (fs : List Fl) : (big fs).falls < 1000000 := by show (0 : Int) < 1000000; decide
theorem bigN_falls (fs : List Fl) {n : Int} (h : n < 1000000) : (bigN fs n).falls < 1000000 := h
theorem down_falls (fs : List Fl) {n : Int} (h : n < 1000000) : (down fs n).falls < 1000000 := h
theorem down_read (fs : List Fl) (n : Int) (x : Bs) : readA (down fs n) x = ([], 13) := rfl
theorem down_append (fs : List Fl) (n : Int) (x b : Bs) : appendA (down fs n) x b = (down fs n, 13) := rfl
theorem read_f (x y : Bs) (a b : Nat) (n : Int) : readA (bigN [(nf, x, a), (ng, y, b)] n) nf = (x, 0) := rfl
theorem read_g (x y : Bs) (a b : Nat) (n : Int) : readA (bigN [(nf, x, a), (ng, y, b)] n) ng = (y, 0) := rfl
theorem wf_u64 {n : Int} (h : (Lit.int .u64 n).wf = true) : 0 ≤ n ∧ n ≤ 18446744073709551615 := by
  have h1 : IntKind.u64.min ≤ n ∧ n ≤ IntKind.u64.max := by simpa [Lit.wf] using h
  have e1 : IntKind.u64.min = 0 := by decide
  have e2 : IntKind.u64.max = 18446744073709551615 := by decide
  omega
theorem wf_i64 {n : Int} (h : (Lit.int .i64 n).wf = true) : -9223372036854775808 ≤ n ∧ n ≤ 9223372036854775807 := by
  have h1 : IntKind.i64.min ≤ n ∧ n ≤ IntKind.i64.max := by simpa [Lit.wf] using h
  have e1 : IntKind.i64.min = -9223372036854775808 := by decide
  have e2 : IntKind.i64.max = 9223372036854775807 := by decide
  omega
theorem not_u64 (k : Nat) : ∃ K : Nat, bits BinOp.xor IntKind.u64 IntKind.u64.max (k : Int) = (K : Int) ∧ K < 18446744073709551616 := by
  have h := wf_u64 (wf_bits .xor .u64 IntKind.u64.max (k : Int))
  exact ⟨(bits BinOp.xor IntKind.u64 IntKind.u64.max (k : Int)).toNat, by omega, by omega⟩
/-- append(append([]byte{}, l...), m...) -/
theorem join2 (w : World) (x y : Value) (l m : Bs) (hx : Rd w x l) (hy : Rd w y m) (hl : l.length + m.length ≤ 140737488355328) :
    ∃ v1 w1 v2 w2, (Builtin.append_ #[22, 22] 22 #[.slice (some ⟨w.heap.size, 0, none⟩) 0 0, x]).run Try.prog (w.alloc (.cells #[] 5)) = .ok v1 w1 ∧ (Builtin.append_ #[22, 22] 22 #[v1, y]).run Try.prog w1 = .ok v2 w2 ∧ Fb w2 v2 (l ++ m) ∧ Mod (fun _ => False) w w2 ∧ (∀ g, v2.ownBlock = some g → w.heap.size ≤ g) := by
  have hal : Mod (fun _ => False) w (w.alloc (.cells #[] 5)) := (Mod.refl _ _).alloc _
  have hfb0 : Fb (w.alloc (.cells #[] 5)) (.slice (some ⟨w.heap.size, 0, none⟩) 0 0) [] := by
    refine .inr ⟨w.heap.size, 0, #[], (0, 0), rfl, Blk.new w #[] 5, fun i hi => absurd hi (Nat.not_lt_zero _), Nat.le_refl _, Nat.zero_le _, Nat.zero_le _, rfl⟩
  obtain ⟨v1, w1, hr1, hb1, hm1, ho1⟩ := hfb0.app (hx.mod hal (fun _ _ h => h)) (by simp; omega)
  have hg : ∀ g, v1.ownBlock = some g → w.heap.size ≤ g := fun g hgg => by
    rcases ho1 g hgg with h1 | h1
    · simp [Value.ownBlock] at h1; omega
    · have := hal.size; omega
  have hM1 : Mod (fun _ => False) w w1 := hal.trans hm1 (fun i hi => .inr (by simp [Value.ownBlock] at hi; omega))
  rw [List.nil_append] at hb1
  obtain ⟨v2, w2, hr2, hb2, hm2, ho2⟩ := hb1.app (hy.mod hM1 (fun _ _ h => h)) hl
  refine ⟨v1, w1, v2, w2, hr1, hr2, hb2, hM1.trans hm2 (fun i hi => .inr (hg i hi)), fun g hgg => ?_⟩
  rcases ho2 g hgg with h1 | h1
  · exact hg g h1
  · have := hM1.size; omega
theorem Fb.rdc {w : World} {v : Value} {l : Bs} (h : Fb w v l) : RdC w v l := ⟨h.rd, by obtain ⟨a, c, h1, h2, h3⟩ := h.shape; exact ⟨a, c, h1, h2, h3⟩⟩
set_option maxRecDepth 100000 in
set_option maxHeartbeats 3200000 in
theorem keeps_any (one more two : Bs) (va vb vc : Value) (k : Nat) (w : World) (h1 : RdC w va one) (h2 : RdC w vb more) (h3 : RdC w vc two) (hk : k < 18446744073709551616) (hs : one.length + more.length + two.length ≤ 4000000) :
    Calls Try.prog 3 #[va, vb, vc, .int .u64 (k : Int)] w fun e w' => e = .returned (.bool true) ∧ Mod (fun _ => False) w w' := by
  have hsh := shown_any w
  obtain ⟨a1, c1, hv1, hc1, hm1⟩ := h1.2
  obtain ⟨a2, c2, hv2, hc2, hm2⟩ := h2.2
  obtain ⟨a3, c3, hv3, hc3, hm3⟩ := h3.2
  subst hv1 hv2 hv3
  obtain ⟨l1, hl1⟩ : ∃ n, one.length = n := ⟨_, rfl⟩
  obtain ⟨l2, hl2⟩ : ∃ n, more.length = n := ⟨_, rfl⟩
  obtain ⟨l3, hl3⟩ : ∃ n, two.length = n := ⟨_, rfl⟩
  rw [hl1] at h1
  rw [hl2] at h2
  rw [hl3] at h3
  have H1 := Lib.hid h1
  have H2 := Lib.hid h2
  have H3 := Lib.hid h3
  clear h1 h2 h3
  rw [hl1, hl2, hl3]
  have e1 : IntKind.i64.wrap ((l1 : Int) + (l2 : Int)) = (l1 : Int) + (l2 : Int) := by rw [IntKind.wrap_i64]; omega
  have e2 : IntKind.i64.wrap ((l1 : Int) + (l2 : Int) + (l3 : Int)) = (l1 : Int) + (l2 : Int) + (l3 : Int) := by rw [IntKind.wrap_i64]; omega
  by_cases hlong : (l1 : Int) + (l2 : Int) + (l3 : Int) > 100000
  · go_enter Try.func3, Try.ntmps3
    go_wp2_with (fail)
    refine hsh.mono ?_
    rintro e w1 ⟨rfl, hM1⟩
    go_wp2_with (fail)
    refine (run_new w1 1099511627776 (by decide)).mono ?_
    rintro e w2 ⟨d, X2, rfl, s2⟩
    go_wp2
    go_ret
    exact ⟨rfl, hM1.trans s2.mod (fun _ h => h.elim)⟩
  · have hsum : one.length + more.length + two.length ≤ 100000 := by omega
    go_enter Try.func3, Try.ntmps3
    go_wp2_with (fail)
    refine hsh.mono ?_
    rintro e w1 ⟨rfl, hM1⟩
    go_wp2_with (fail)
    refine (run_new w1 1099511627776 (by decide)).mono ?_
    rintro e w2 ⟨d, X2, rfl, s2⟩
    replace s2 : Run w1 d X2 (big []) w2 := s2
    have HM := Lib.hid hM1
    clear hM1
    go_wp2_with (fail)
    refine (run_append s2 nf _ one ((H1.out.still HM.out).run s2).1 (by decide) (by decide) (by decide) (by show 0 + one.length ≤ _; omega)).mono ?_
    rintro e w3 ⟨X3, rfl, s3, -⟩
    rw [keeps1 (by omega)] at s3 ⊢
    go_wp2_with (fail)
    refine (run_sync s3 nf (by decide) (big_falls _)).mono ?_
    rintro e w4 ⟨X4, rfl, s4, -⟩
    rw [keeps2] at s4 ⊢
    go_wp2_with (fail)
    refine (run_append s4 nf _ more ((H2.out.still HM.out).run s4).1 (by decide) (big_falls _) (by show 1 < 1000; decide) (by show (one.length + 0) + more.length ≤ _; omega)).mono ?_
    rintro e w5 ⟨X5, rfl, s5, -⟩
    rw [keeps3 (by omega)] at s5 ⊢
    go_wp2_with (fail)
    refine (run_append s5 ng _ two ((H3.out.still HM.out).run s5).1 (by decide) (big_falls _) (by show 1 < 1000; decide) (by show ((one ++ more).length + 0) + two.length ≤ _; rw [List.length_append]; omega)).mono ?_
    rintro e w6 ⟨X6, rfl, s6, -⟩
    rw [keeps4 (by rw [List.length_append]; omega)] at s6 ⊢
    replace s6 : Run w1 d X6 (bigN [(nf, one ++ more, one.length), (ng, two, 0)] 0) w6 := s6
    have hn1 := nn_le (k := k) (i := 0) (p := (nf, one ++ more, one.length)) (by show one.length ≤ (one ++ more).length; rw [List.length_append]; omega)
    have hn1' := nn_ge k 0 (nf, one ++ more, one.length)
    have hn2 := nn_le (k := k) (i := 1) (p := (ng, two, 0)) (Nat.zero_le _)
    obtain ⟨n1, hn1e⟩ : ∃ n, nn k 0 (nf, one ++ more, one.length) = n := ⟨_, rfl⟩
    obtain ⟨n2, hn2e⟩ : ∃ n, nn k 1 (ng, two, 0) = n := ⟨_, rfl⟩
    go_wp2_with (fail)
    refine (run_crash s6 k hk (bigN_falls _ (by decide))).mono ?_
    rintro e w7 ⟨X7, rfl, s7, -⟩
    rw [keeps5, hn1e, hn2e] at s7
    rw [hn1e] at hn1 hn1'
    rw [hn2e] at hn2
    have hx1 : ((one ++ more).take n1).length = n1 := by rw [List.length_take]; omega
    have hy1 : (two.take n2).length = n2 := by rw [List.length_take]; omega
    have hX : one.length ≤ ((one ++ more).take n1).length := by omega
    have HB1 : Hid ((decide (((one ++ more).take n1).length ≤ (one ++ more).length) && ((one ++ more).take ((one ++ more).take n1).length == (one ++ more).take n1)) = true) := Lib.hid (by rw [hx1, decide_eq_true hn1]; simp)
    have HB2 : Hid ((decide ((two.take n2).length ≤ two.length) && (two.take (two.take n2).length == two.take n2)) = true) := Lib.hid (by rw [hy1, decide_eq_true hn2]; simp)
    have hxb : ((one ++ more).take n1).length ≤ 100000 := by rw [List.length_append] at hn1; omega
    have hyb : (two.take n2).length ≤ 100000 := by omega
    have hx2 := hx1.symm
    have hy2 := hy1.symm
    obtain ⟨x, hx⟩ : ∃ x, (one ++ more).take n1 = x := ⟨_, rfl⟩
    obtain ⟨y, hy⟩ : ∃ y, two.take n2 = y := ⟨_, rfl⟩
    rw [hx] at s7 hX HB1 hxb hx2
    rw [hy] at s7 HB2 hyb hy2
    replace s7 : Run w1 d X7 (down [(nf, x, n1), (ng, y, n2)] 1) w7 := s7
    have hX2 : ¬ (x.length : Int) < (l1 : Int) := by omega
    clear hn1 hn1' hn2 hn1e hn2e hx1 hy1 hx hy s2 s3 s4 s5 s6
    go_wp2_with (fail)
    refine (run_read s7 nf (by decide)).mono ?_
    rintro e w8 ⟨v8, rfl, -, hm8⟩
    rw [down_read]
    have s8 := s7.still hm8
    clear s7 hm8
    go_wp2_with (fail)
    refine (run_append s8 nf _ two ((H3.out.still HM.out).run s8).1 (by decide) (down_falls _ (by decide)) (by show 2 < 1000; decide) (by show x.length + (y.length + 0) + two.length ≤ _; omega)).mono ?_
    rintro e w9 ⟨X9, rfl, s9, -⟩
    rw [down_append] at s9 ⊢
    go_wp2_with (fail)
    refine (run_start s9).mono ?_
    rintro e w10 ⟨X10, rfl, s10, -⟩
    rw [down_start] at s10
    go_wp2_with (fail)
    refine (run_read s10 nf (by decide)).mono ?_
    rintro e w11 ⟨vx, rfl, rx, hm11⟩
    rw [read_f] at rx ⊢
    have s11 := s10.still hm11
    have gx : ∀ g, vx.ownBlock = some g → ¬ Foot d X10 g := fun g hg => s10.fresh (own_lt rx hg).1
    obtain ⟨ax, cx, hvx, hcx1, hcx2⟩ := (rdc_own rx).2
    subst hvx
    go_wp2_with (fail)
    refine (run_read s11 ng (by decide)).mono ?_
    rintro e w12 ⟨vy, rfl, ry, hm12⟩
    rw [read_g] at ry ⊢
    have s12 := s11.still hm12
    have gy : ∀ g, vy.ownBlock = some g → ¬ Foot d X10 g := fun g hg => s11.fresh (own_lt ry hg).1
    obtain ⟨ay, cy, hvy, hcy1, hcy2⟩ := (rdc_own ry).2
    subst hvy
    have RX := Lib.hid (own_mod rx hm12 (fun _ _ h => h))
    have RY := Lib.hid ry
    have GX := Lib.hid gx
    have GY := Lib.hid gy
    clear s8 s9 s10 s11 rx ry gx gy hm11 hm12
    obtain ⟨va1, wa1, va2, wa2, hr1, hr2, hfa, hma, hga⟩ := join2 w12 _ _ one more ((H1.out.still HM.out).run s12).1 ((H2.out.still HM.out).run s12).1 (by omega)
    obtain ⟨aa, ca, hva, hca1, hca2⟩ := hfa.shape
    subst hva
    have s13 := s12.still hma
    have RX2 := Lib.hid (own_mod RX.out hma (fun _ _ h => h))
    have RY2 := Lib.hid (own_mod RY.out hma (fun _ _ h => h))
    have RA := hfa.rdc
    rw [show (one ++ more).length = l1 + l2 by rw [List.length_append]; omega] at hr2 RA
    replace RA := Lib.hid RA
    clear hfa hma hga s12
    go_wp2_with (first | (at_builtin; refine wpList_append_run rfl _ _ 22 22 rfl _ _ rfl rfl hr1 ?_) | (at_builtin; refine wpList_append_run rfl _ _ 22 22 rfl _ _ rfl rfl hr2 ?_))
    refine (begins_any wa2 _ _ x (one ++ more) (rdc_own RX2.out) RA.out).mono ?_
    rintro e w14 ⟨rfl, hm14⟩
    rw [HB1.out]
    have s14 := s13.still hm14
    have RX3 := Lib.hid (own_mod RX2.out hm14 (fun _ _ h => h))
    have RY3 := Lib.hid (own_mod RY2.out hm14 (fun _ _ h => h))
    clear RX RY RX2 RY2 RA hm14 s13
    go_wp2_with (fail)
    refine (begins_any w14 _ _ y two (rdc_own RY3.out) ((H3.out.still HM.out).run s14)).mono ?_
    rintro e w15 ⟨rfl, hm15⟩
    rw [HB2.out]
    have s15 := s14.still hm15
    have RX4 := Lib.hid (own_mod RX3.out hm15 (fun _ _ h => h))
    have RY4 := Lib.hid (own_mod RY3.out hm15 (fun _ _ h => h))
    clear RX3 RY3 hm15 s14
    go_wp2_with (fail)
    obtain ⟨K, hK, hK2⟩ := not_u64 k
    rw [hK]
    refine (run_crash s15 K hK2 (bigN_falls _ (by decide))).mono ?_
    rintro e w16 ⟨X16, rfl, s16, D16⟩
    rw [keeps_again K hx2 hy2] at s16
    have lx : ∀ g, (Value.slice ax x.length cx).ownBlock = some g → g < w15.heap.size := fun g hg => (own_lt RX4.out hg).2
    have ly : ∀ g, (Value.slice ay y.length cy).ownBlock = some g → g < w15.heap.size := fun g hg => (own_lt RY4.out hg).2
    have GX2 : ∀ g, (Value.slice ax x.length cx).ownBlock = some g → ¬ Foot d X16 g := fun g hg => D16.far (GX.out g hg) (lx g hg)
    have GY2 : ∀ g, (Value.slice ay y.length cy).ownBlock = some g → ¬ Foot d X16 g := fun g hg => D16.far (GY.out g hg) (ly g hg)
    have RX5 := own_mod RX4.out D16.m GX.out
    have RY5 := own_mod RY4.out D16.m GY.out
    have HX5 := Lib.hid (And.intro RX5 GX2)
    have HY5 := Lib.hid (And.intro RY5 GY2)
    clear lx ly GX2 GY2 RX5 RY5 RX4 RY4 GX GY D16 s15 hK
    go_wp2_with (fail)
    refine (run_start s16).mono ?_
    rintro e w17 ⟨X17, rfl, s17, D17⟩
    rw [down_start] at s17
    have RX6 := Lib.hid (own_mod HX5.out.1 D17.m HX5.out.2)
    have RY6 := Lib.hid (own_mod HY5.out.1 D17.m HY5.out.2)
    clear HX5 HY5 D17 s16
    go_wp2_with (fail)
    refine (run_read s17 nf (by decide)).mono ?_
    rintro e w18 ⟨vu, rfl, ru, hm18⟩
    rw [read_f] at ru ⊢
    have s18 := s17.still hm18
    have RX7 := Lib.hid (own_mod RX6.out hm18 (fun _ _ h => h))
    have RY7 := Lib.hid (own_mod RY6.out hm18 (fun _ _ h => h))
    obtain ⟨au, cu, hvu, hcu1, hcu2⟩ := (rdc_own ru).2
    subst hvu
    have RU := Lib.hid ru
    clear RX6 RY6 hm18 s17 ru
    go_wp2_with (fail)
    refine (run_read s18 ng (by decide)).mono ?_
    rintro e w19 ⟨vv, rfl, rv, hm19⟩
    rw [read_g] at rv ⊢
    have s19 := s18.still hm19
    have tx := ((rd_own RX7.out).mod hm19 (fun _ _ h => h)).text
    have ty := ((rd_own RY7.out).mod hm19 (fun _ _ h => h)).text
    have tu := ((rd_own RU.out).mod hm19 (fun _ _ h => h)).text
    have tv := (rd_own rv).text
    obtain ⟨av, cv, hvv, hcv1, hcv2⟩ := (rdc_own rv).2
    subst hvv
    have S19 := Lib.hid s19
    clear RX7 RY7 RU hm19 s18 rv s19
    have ex : ((sv x).toList == (sv x).toList) = true := by simp
    have ey : ((sv y).toList == (sv y).toList) = true := by simp
    go_wp2_with (fail)
    refine (run_falls S19.out).mono ?_
    rintro e w20 ⟨rfl, rfl⟩
    go_wp2
    go_ret
    exact ⟨rfl, HM.out.trans S19.out.mod (fun _ h => h.elim)⟩
end Go.Proofs.Ytoceddcppbddnaa
