/-
  The document's Auto.
-/
import Derived.Test.YtkmidilaabgooaaDoorXg
import Derived.Test.YtkmidilaabgooaaDoorCk
namespace Go.Proofs.YtkmidilaabgooaaDoor
open Go.RowKit Mem
set_option linter.unusedVariables false
set_option linter.unusedSimpArgs false

/-- A byte of an address, short of its end. -/
def adB (c : UInt8) : Bool := !(badA c || c == 62)
theorem cut_no {p : Bs} {c : UInt8} {d : Bs} : (∀ x ∈ p, adB x = true) → badA c = true → (c == 62) = false → cut 62 (p ++ c :: d) = none ∨ ∃ t x, cut 62 (p ++ c :: d) = some (t, x) ∧ t.any badA = true := by
  induction p with
  | nil =>
    intro _ h1 h2
    show (if c == 62 then _ else (cut 62 d).map _ : Option (Bs × Bs)) = none ∨ _
    rw [h2, if_neg (by decide)]
    cases h : cut 62 d with
    | none => exact .inl rfl
    | some q =>
      refine .inr ⟨c :: q.1, q.2, ?_, ?_⟩
      · show (if c == 62 then _ else (cut 62 d).map _ : Option (Bs × Bs)) = _
        rw [h2, if_neg (by decide), h]; rfl
      · rw [List.any_cons, h1]; rfl
  | cons b p ih =>
    intro h h1 h2
    have hb : (b == 62) = false := by
      have := h b (List.mem_cons_self ..)
      unfold adB at this
      simp at this
      exact beq_eq_false_iff_ne.2 this.2
    have hih := ih (fun x hx => h x (List.mem_cons_of_mem _ hx)) h1 h2
    have e : cut 62 (b :: p ++ c :: d) = (cut 62 (p ++ c :: d)).map fun q => (b :: q.1, q.2) := by
      show (if b == 62 then _ else (cut 62 (p ++ c :: d)).map _ : Option (Bs × Bs)) = _
      rw [hb, if_neg (by decide)]
    rw [e]
    rcases hih with hn | ⟨t, x, ht, hy⟩
    · rw [hn]; exact .inl rfl
    · rw [ht]; exact .inr ⟨b :: t, x, rfl, by rw [List.any_cons, hy, Bool.or_true]⟩
theorem cut_at {p d : Bs} : (∀ x ∈ p, adB x = true) → cut 62 (p ++ 62 :: d) = some (p, d) := by
  induction p with
  | nil => intro _; rfl
  | cons b p ih =>
    intro h
    have hb : (b == 62) = false := by
      have := h b (List.mem_cons_self ..)
      unfold adB at this
      simp at this
      exact beq_eq_false_iff_ne.2 this.2
    show (if b == 62 then _ else (cut 62 (p ++ 62 :: d)).map _ : Option (Bs × Bs)) = _
    rw [hb, if_neg (by decide), ih (fun x hx => h x (List.mem_cons_of_mem _ hx))]
    rfl
theorem cut_end {p : Bs} : (∀ x ∈ p, adB x = true) → cut 62 p = none := by
  induction p with
  | nil => intro _; rfl
  | cons b p ih =>
    intro h
    have hb : (b == 62) = false := by
      have := h b (List.mem_cons_self ..)
      unfold adB at this
      simp at this
      exact beq_eq_false_iff_ne.2 this.2
    show (if b == 62 then _ else (cut 62 p).map _ : Option (Bs × Bs)) = _
    rw [hb, if_neg (by decide), ih (fun x hx => h x (List.mem_cons_of_mem _ hx))]
    rfl
theorem tw_all {p : UInt8 → Bool} {r : Bs} : ∀ x ∈ r.takeWhile p, p x = true := fun x hx => by
  have := List.all_takeWhile (p := p) (l := r)
  rw [List.all_eq_true] at this
  exact this x hx
theorem ad_split {l : Bs} {k : Nat} (hk1 : 1 ≤ k) (hk : k ≤ l.length) (h : (l.drop 1).dropWhile adB = l.drop k) : ∃ p : Bs, l.drop 1 = p ++ l.drop k ∧ (∀ x ∈ p, adB x = true) ∧ (l.take k).drop 1 = p := by
  refine ⟨(l.drop 1).takeWhile adB, ?_, tw_all, ?_⟩
  · rw [← h, List.takeWhile_append_dropWhile]
  · have hl := tw_len (p := adB) (t := l.drop 1) (K := k - 1) (by rw [List.length_drop]; omega) (by rw [h, List.drop_drop]; congr 1; omega)
    have e := List.takeWhile_append_dropWhile (p := adB) (l := l.drop 1)
    rw [List.drop_take]
    conv => lhs; rw [← e]
    rw [← hl, List.take_left']
    rfl
theorem rauto_end {l : Bs} {k : Nat} (hc : l = 60 :: l.drop 1) (hk1 : 1 ≤ k) (hk : k ≤ l.length) (h : (l.drop 1).dropWhile adB = l.drop k) (he : ¬ k < l.length) : autoF l = none := by
  obtain ⟨p, hp, hall, _⟩ := ad_split hk1 hk h
  rw [List.drop_eq_nil_of_le (show l.length ≤ k by omega), List.append_nil] at hp
  rw [hc, hp]
  exact auto_nocut (cut_end hall)
theorem rauto_bad {l : Bs} {k : Nat} {c : UInt8} (hc : l = 60 :: l.drop 1) (hk1 : 1 ≤ k) (hk : k < l.length) (hx : l[k] = c) (h : (l.drop 1).dropWhile adB = l.drop k) (hb : badA c = true) (h2 : (c == 62) = false) : autoF l = none := by
  obtain ⟨p, hp, hall, _⟩ := ad_split hk1 (by omega) h
  rw [drop_at hk hx] at hp
  rw [hc, hp]
  rcases cut_no (d := l.drop (k + 1)) hall hb h2 with hn | ⟨t, x, ht, hy⟩
  · exact auto_nocut hn
  · rw [auto_cut ht, link_bad hy]
theorem rauto_ok {l : Bs} {k : Nat} (hc : l = 60 :: l.drop 1) (hk1 : 1 ≤ k) (hk : k < l.length) (hx : l[k] = 62) (h : (l.drop 1).dropWhile adB = l.drop k) : autoF l = linkF ((l.take k).drop 1) ∧ ((l.take k).drop 1).any badA = false := by
  obtain ⟨p, hp, hall, ht⟩ := ad_split hk1 (by omega) h
  rw [ht]
  constructor
  · rw [drop_at hk hx] at hp
    rw [hc, hp]
    exact auto_cut (cut_at hall)
  · rw [Bool.eq_false_iff]
    intro hy
    rw [List.any_eq_true] at hy
    obtain ⟨x, hx, hb⟩ := hy
    have := hall x hx
    unfold adB at this
    rw [hb] at this
    simp at this
theorem badA_int (c : UInt8) : badA c = (decide ((c.toNat : Int) ≤ 32) || ((c.toNat : Int) == 127) || ((c.toNat : Int) == 60)) := by
  rw [← badR_byte]
  unfold badR
  have e1 : decide (c.toNat ≤ 32) = decide ((c.toNat : Int) ≤ 32) := by rw [decide_eq_decide]; omega
  have e2 : (c.toNat == 127) = ((c.toNat : Int) == 127) := by rw [Bool.eq_iff_iff]; simp; omega
  have e3 : (c.toNat == 60) = ((c.toNat : Int) == 60) := by rw [Bool.eq_iff_iff]; simp; omega
  rw [e1, e2, e3]
theorem schB_iff (c : UInt8) : schB c = (ltr c || dig c || ([43, 46, 45] : Bs).contains c) := by
  unfold schB isB; simp
theorem sch_zero {t : Bs} (h : ltr1 t = false) : schemeF t = false := by
  cases t with
  | nil => rfl
  | cons c q =>
    rw [scheme_cons]
    have : isB true false [] c = false := h
    rw [this]; rfl
theorem sch_is {t : Bs} {k : Nat} (h : ltr1 t = true) (hk : k ≤ t.length) (hd : t.dropWhile schB = t.drop k) : schemeF t = (decide (2 ≤ k) && decide (k ≤ 32) && ([58] : Bs).isPrefixOf (t.drop k)) := by
  cases t with
  | nil => cases h
  | cons c q =>
    rw [scheme_cons, tw_len hk hd, hd]
    have : isB true false [] c = true := h
    rw [this, Bool.true_and]
theorem ltr1_at {t : Bs} {c : UInt8} (h : 0 < t.length) (hc : t[0] = c) : ltr1 t = ltr c := by
  have := drop_at (l := t) (k := 0) h hc
  rw [List.drop_zero] at this
  rw [this]
  show isB true false [] c = ltr c
  unfold isB; simp
theorem i58 {c : UInt8} {b : Bool} (h : ((c.toNat : Int) == 58) = b) : (c == 58) = b := ieq (n := 58) h
theorem pre58 {t : Bs} {k : Nat} {c : UInt8} (hk : k < t.length) (hc : t[k] = c) : ([58] : Bs).isPrefixOf (t.drop k) = (c == 58) := by
  rw [drop_at hk hc, pre_cons, Bool.eq_iff_iff, beq_iff_eq, beq_iff_eq]; exact ⟨fun h => h.symm, fun h => h.symm⟩
set_option maxRecDepth 100000 in
set_option maxHeartbeats 4000000 in
theorem rauto_any (l : Bs) (w : World) (hl : l.length ≤ 4194304) : Calls Tryd.prog 13 #[.string (sv l)] w fun e w' => e = .returned (autoV (autoF l)) ∧ w = w' := by
  have hsz := sv_size l
  by_cases h0 : 0 < l.length
  · have heq : (sv l).toList.isEmpty = false := by rw [sv_toList, List.isEmpty_eq_false_iff]; rintro rfl; simp at h0
    obtain ⟨a, ha⟩ : ∃ a, l[0] = a := ⟨_, rfl⟩
    have hga : ∀ h, (sv l)[0]'h = a := fun _ => ha
    have hd0 := drop_at h0 ha
    rw [List.drop_zero] at hd0
    rcases e0 : ((a.toNat : Int) == 60) with _ | _
    · have HF : Hid (autoV (autoF l) = autoV none) := Lib.hid (by
        rw [auto_no60]
        rw [hd0, pre_cons, beq_eq_false_iff_ne]
        rintro rfl; cases e0)
      have e0' : ((a.toNat : Int) != 60) = true := by rw [bne, e0]; rfl
      clear e0 hd0 ha
      go_enter Tryd.func13, Tryd.ntmps13
      go_wp2
      go_ret3
      exact ⟨ret_val (by rw [HF.out]; rfl), rfl⟩
    · have ha60 : a = 60 := UInt8.toNat_inj.1 (by rw [beq_iff_eq] at e0; show a.toNat = 60; omega)
      have e0' : ((a.toNat : Int) != 60) = false := by rw [bne, e0]; rfl
      have HC : Hid (l = 60 :: l.drop 1) := Lib.hid (by rw [ha60] at hd0; exact hd0)
      clear e0 hd0 ha ha60
      go_enter Tryd.func13, Tryd.ntmps13
      go_wp2
      clear e0' hga
      go_loop [5] (fun v => ∃ k : Nat, v = .int .i64 k ∧ 1 ≤ k ∧ k ≤ l.length ∧ Hid ((l.drop 1).dropWhile adB = (l.drop k).dropWhile adB)) (fun v => l.length - (intOf v).toNat)
      case atStart => exact ⟨1, by go_num, Nat.le_refl _, by omega, Lib.hid rfl⟩
      case round =>
        obtain ⟨i, rfl, hi1, hi, hD⟩ := hrel
        have hgood : ∀ c, (hx : i < l.length) → l[i] = c → adB c = true → Hid ((l.drop 1).dropWhile adB = (l.drop (i + 1)).dropWhile adB) := fun c hx hc h => Lib.hid (by rw [hD.out, drop_at hx hc, List.dropWhile_cons, if_pos h])
        have hstop : ∀ c, (hx : i < l.length) → l[i] = c → adB c = false → (l.drop 1).dropWhile adB = l.drop i := fun c hx hc h => by rw [hD.out, drop_at hx hc, List.dropWhile_cons, if_neg (by rw [h]; decide)]
        by_cases hlt : i < l.length
        · have q1 : (i : Int) < (l.length : Int) := by omega
          have q1' : ((i : Int) == (l.length : Int)) = false := beq_eq_false_iff_ne.2 (by omega)
          obtain ⟨c, hc⟩ : ∃ c, l[i] = c := ⟨_, rfl⟩
          have hgc : ∀ h, (sv l)[i]'h = c := fun _ => hc
          have hbad := badA_int c
          have hbd : badA c = true → ((c.toNat : Int) == 62) = false → Hid (autoV (autoF l) = autoV none) := fun hb h2 => Lib.hid (by
            have h62 := i62 h2
            rw [rauto_bad HC.out hi1 hlt hc (hstop c hlt hc (by unfold adB; rw [hb]; rfl)) hb h62])
          by_cases x1 : (c.toNat : Int) > 32
          · have x1f : decide ((c.toNat : Int) ≤ 32) = false := decide_eq_false (by omega)
            rcases y1 : ((c.toNat : Int) == 127) with _ | _
            · have y1' : ((c.toNat : Int) != 127) = true := by rw [bne, y1]; rfl
              rcases y2 : ((c.toNat : Int) == 60) with _ | _
              · have y2' : ((c.toNat : Int) != 60) = true := by rw [bne, y2]; rfl
                have hnb : badA c = false := by rw [hbad, x1f, y1, y2]; rfl
                rcases y3 : ((c.toNat : Int) == 62) with _ | _
                · have y3' : ((c.toNat : Int) != 62) = true := by rw [bne, y3]; rfl
                  have H := hgood c hlt hc (by unfold adB; rw [hnb, i62 y3]; rfl)
                  clear hgood hstop hbad hbd hc hD y1 y2 y3 hnb x1f
                  go_wp2
                  go_round
                  case rel => exact ⟨i + 1, by go_num, by omega, by omega, H⟩
                  case measure => simp [intOf]; omega
                · have y3' : ((c.toNat : Int) != 62) = false := by rw [bne, y3]; rfl
                  have hc62 : c = 62 := UInt8.toNat_inj.1 (by rw [beq_iff_eq] at y3; show c.toNat = 62; omega)
                  have hok := rauto_ok HC.out hi1 hlt (hc.trans hc62) (hstop c hlt hc (by unfold adB; rw [i62 y3, Bool.or_true]; rfl))
                  have htl : ((l.take i).drop 1).length = i - 1 := by rw [List.length_drop, List.length_take]; omega
                  have hex := sv_cut l 1 i
                  obtain ⟨t, ht⟩ : ∃ t, (l.take i).drop 1 = t := ⟨_, rfl⟩
                  rw [ht] at hok htl hex
                  have HV : Hid (autoV (autoF l) = autoV (linkF t)) := Lib.hid (by rw [hok.1])
                  have HB := Lib.hid hok.2
                  have htz := sv_size t
                  have hadd : (⟨#[109, 97, 105, 108, 116, 111, 58]⟩ : ByteArray) ++ sv t = sv (mailto ++ t) ∧ ((t.length : Nat) : Int) ≤ 8388608 ∧ (((⟨#[109, 97, 105, 108, 116, 111, 58]⟩ : ByteArray).size : Nat) : Int) ≤ 8388608 := by
                    refine ⟨?_, by omega, by show ((7 : Nat) : Int) ≤ 8388608; omega⟩
                    apply ByteArray.ext
                    apply Array.toList_inj.1
                    rw [ByteArray.data_append, Array.toList_append]
                    rfl
                  clear hgood hstop hbad hbd hc hD y1 y2 y3 hnb x1f hok ht hc62
                  have s1 : (i : Int) ≥ 1 := by omega
                  go_wp2
                  clear x1 y1' y2' y3' hgc hex
                  go_loop [7] (fun v => ∃ k : Nat, v = .int .i64 k ∧ k ≤ t.length ∧ Hid (t.dropWhile schB = (t.drop k).dropWhile schB) ∧ Hid (k ≠ 0 → ltr1 t = true)) (fun v => t.length - (intOf v).toNat)
                  case atStart => exact ⟨0, rfl, by omega, Lib.hid rfl, Lib.hid (fun h => absurd rfl h)⟩
                  case round =>
                    obtain ⟨k, rfl, hk, hS, hL1⟩ := hrel
                    by_cases hkt : k < t.length
                    · have q2 : (k : Int) < (t.length : Int) := by omega
                      obtain ⟨d, hd⟩ : ∃ d, t[k] = d := ⟨_, rfl⟩
                      have hgd : ∀ h, (sv t)[k]'h = d := fun _ => hd
                      have hdd := drop_at hkt hd
                      have hn := schB_iff d
                      have hgo : schB d = true → Hid (t.dropWhile schB = (t.drop (k + 1)).dropWhile schB) := fun h => Lib.hid (by rw [hS.out, hdd, List.dropWhile_cons, if_pos h])
                      have hstp : schB d = false → Hid (t.dropWhile schB = t.drop k) := fun h => Lib.hid (by rw [hS.out, hdd, List.dropWhile_cons, if_neg (by rw [h]; decide)])
                      rcases hL : ltr d with _ | _
                      · have h1 := fun w => letter_b hL w
                        by_cases hk0 : k = 0
                        · have HSC : Hid (schemeF t = false) := Lib.hid (sch_zero (by subst hk0; rw [ltr1_at hkt hd, hL]))
                          have z0 : ¬ (k : Int) > 0 := by omega
                          have z2 : ¬ (k : Int) ≥ 2 := by omega
                          clear hd hdd hn hgo hstp hL hS hL1 hk0
                          rcases hm : mailF t with _ | _
                          · have HF : Hid (autoV (autoF l) = autoV none) := Lib.hid (by rw [HV.out, link_mail HB.out HSC.out, hm]; rfl)
                            have hM := fun w => rmail_n hm (by omega) w
                            clear hm HV HB HSC
                            go_wp2_with (fail)
                            refine (h1 _).mono ?_
                            rintro e w' ⟨rfl, rfl⟩
                            go_wp2_with (fail)
                            refine (hM _).mono ?_
                            rintro e w' ⟨rfl, rfl⟩
                            go_wp2
                            go_ret3
                            exact ⟨ret_val (by rw [HF.out]; rfl), rfl⟩
                          · have HF : Hid (autoV (autoF l) = autoV (some (mailto ++ t, t))) := Lib.hid (by rw [HV.out, link_mail HB.out HSC.out, hm]; rfl)
                            have hM := fun w => rmail_n hm (by omega) w
                            clear hm HV HB HSC
                            go_wp2_with (fail)
                            refine (h1 _).mono ?_
                            rintro e w' ⟨rfl, rfl⟩
                            go_wp2_with (fail)
                            refine (hM _).mono ?_
                            rintro e w' ⟨rfl, rfl⟩
                            go_wp2
                            go_ret3
                            exact ⟨ret_val (by rw [HF.out]; show _ = Value.tuple #[.string (sv (mailto ++ t)), .string (sv t), .int .i64 ((t.length : Int) + 2)]; rw [show (t.length : Int) + 2 = (i : Int) + 1 by omega]; rfl), rfl⟩
                        · have z0 : (k : Int) > 0 := by omega
                          rcases hG : dig d with _ | _
                          · have h2 := fun w => digit_b hG w
                            rcases hM : ([43, 46, 45] : Bs).contains d with _ | _
                            · have h3 := fun w => among_b (c := d) (o := [43, 46, 45]) (B := false) hM (by decide) w
                              have HE := hstp (by rw [hn, hL, hG, hM]; rfl)
                              have HS : Hid (schemeF t = (decide (2 ≤ k) && decide (k ≤ 32) && (d == 58))) := Lib.hid (by rw [sch_is (hL1.out hk0) hk HE.out, pre58 hkt hd])
                              clear hd hdd hn hgo hstp hL hS hL1 hk0 hG hM HE
                              by_cases k2 : 2 ≤ k
                              · have z2 : (k : Int) ≥ 2 := by omega
                                by_cases k32 : k ≤ 32
                                · have z3 : (k : Int) ≤ 32 := by omega
                                  rcases y5 : ((d.toNat : Int) == 58) with _ | _
                                  · have HSC : Hid (schemeF t = false) := Lib.hid (by rw [HS.out, i58 y5, Bool.and_false])
                                    clear HS
                                    rcases hm : mailF t with _ | _
                                    · have HF : Hid (autoV (autoF l) = autoV none) := Lib.hid (by rw [HV.out, link_mail HB.out HSC.out, hm]; rfl)
                                      have hM := fun w => rmail_n hm (by omega) w
                                      clear hm HV HB HSC
                                      go_wp2_with (fail)
                                      refine (h1 _).mono ?_
                                      rintro e w' ⟨rfl, rfl⟩
                                      go_wp2_with (fail)
                                      refine (h2 _).mono ?_
                                      rintro e w' ⟨rfl, rfl⟩
                                      go_wp2_with (fail)
                                      refine (h3 _).mono ?_
                                      rintro e w' ⟨rfl, rfl⟩
                                      go_wp2_with (fail)
                                      refine (hM _).mono ?_
                                      rintro e w' ⟨rfl, rfl⟩
                                      go_wp2
                                      go_ret3
                                      exact ⟨ret_val (by rw [HF.out]; rfl), rfl⟩
                                    · have HF : Hid (autoV (autoF l) = autoV (some (mailto ++ t, t))) := Lib.hid (by rw [HV.out, link_mail HB.out HSC.out, hm]; rfl)
                                      have hM := fun w => rmail_n hm (by omega) w
                                      clear hm HV HB HSC
                                      go_wp2_with (fail)
                                      refine (h1 _).mono ?_
                                      rintro e w' ⟨rfl, rfl⟩
                                      go_wp2_with (fail)
                                      refine (h2 _).mono ?_
                                      rintro e w' ⟨rfl, rfl⟩
                                      go_wp2_with (fail)
                                      refine (h3 _).mono ?_
                                      rintro e w' ⟨rfl, rfl⟩
                                      go_wp2_with (fail)
                                      refine (hM _).mono ?_
                                      rintro e w' ⟨rfl, rfl⟩
                                      go_wp2
                                      go_ret3
                                      exact ⟨ret_val (by rw [HF.out]; show _ = Value.tuple #[.string (sv (mailto ++ t)), .string (sv t), .int .i64 ((t.length : Int) + 2)]; rw [show (t.length : Int) + 2 = (i : Int) + 1 by omega]; rfl), rfl⟩
                                  · have HF : Hid (autoV (autoF l) = autoV (some (t, t))) := Lib.hid (by rw [HV.out, link_scheme HB.out (by rw [HS.out, decide_eq_true k2, decide_eq_true k32, i58 y5]; rfl)])
                                    clear HS HV HB
                                    go_wp2_with (fail)
                                    refine (h1 _).mono ?_
                                    rintro e w' ⟨rfl, rfl⟩
                                    go_wp2_with (fail)
                                    refine (h2 _).mono ?_
                                    rintro e w' ⟨rfl, rfl⟩
                                    go_wp2_with (fail)
                                    refine (h3 _).mono ?_
                                    rintro e w' ⟨rfl, rfl⟩
                                    go_wp2
                                    go_ret3
                                    exact ⟨ret_val (by rw [HF.out]; show _ = Value.tuple #[.string (sv t), .string (sv t), .int .i64 ((t.length : Int) + 2)]; rw [show (t.length : Int) + 2 = (i : Int) + 1 by omega]; rfl), rfl⟩
                                · have z3 : ¬ (k : Int) ≤ 32 := by omega
                                  have HSC : Hid (schemeF t = false) := Lib.hid (by rw [HS.out, decide_eq_false k32, Bool.and_false, Bool.false_and])
                                  clear HS
                                  rcases hm : mailF t with _ | _
                                  · have HF : Hid (autoV (autoF l) = autoV none) := Lib.hid (by rw [HV.out, link_mail HB.out HSC.out, hm]; rfl)
                                    have hM := fun w => rmail_n hm (by omega) w
                                    clear hm HV HB HSC
                                    go_wp2_with (fail)
                                    refine (h1 _).mono ?_
                                    rintro e w' ⟨rfl, rfl⟩
                                    go_wp2_with (fail)
                                    refine (h2 _).mono ?_
                                    rintro e w' ⟨rfl, rfl⟩
                                    go_wp2_with (fail)
                                    refine (h3 _).mono ?_
                                    rintro e w' ⟨rfl, rfl⟩
                                    go_wp2_with (fail)
                                    refine (hM _).mono ?_
                                    rintro e w' ⟨rfl, rfl⟩
                                    go_wp2
                                    go_ret3
                                    exact ⟨ret_val (by rw [HF.out]; rfl), rfl⟩
                                  · have HF : Hid (autoV (autoF l) = autoV (some (mailto ++ t, t))) := Lib.hid (by rw [HV.out, link_mail HB.out HSC.out, hm]; rfl)
                                    have hM := fun w => rmail_n hm (by omega) w
                                    clear hm HV HB HSC
                                    go_wp2_with (fail)
                                    refine (h1 _).mono ?_
                                    rintro e w' ⟨rfl, rfl⟩
                                    go_wp2_with (fail)
                                    refine (h2 _).mono ?_
                                    rintro e w' ⟨rfl, rfl⟩
                                    go_wp2_with (fail)
                                    refine (h3 _).mono ?_
                                    rintro e w' ⟨rfl, rfl⟩
                                    go_wp2_with (fail)
                                    refine (hM _).mono ?_
                                    rintro e w' ⟨rfl, rfl⟩
                                    go_wp2
                                    go_ret3
                                    exact ⟨ret_val (by rw [HF.out]; show _ = Value.tuple #[.string (sv (mailto ++ t)), .string (sv t), .int .i64 ((t.length : Int) + 2)]; rw [show (t.length : Int) + 2 = (i : Int) + 1 by omega]; rfl), rfl⟩
                              · have z2 : ¬ (k : Int) ≥ 2 := by omega
                                have HSC : Hid (schemeF t = false) := Lib.hid (by rw [HS.out, decide_eq_false k2, Bool.false_and, Bool.false_and])
                                clear HS
                                rcases hm : mailF t with _ | _
                                · have HF : Hid (autoV (autoF l) = autoV none) := Lib.hid (by rw [HV.out, link_mail HB.out HSC.out, hm]; rfl)
                                  have hM := fun w => rmail_n hm (by omega) w
                                  clear hm HV HB HSC
                                  go_wp2_with (fail)
                                  refine (h1 _).mono ?_
                                  rintro e w' ⟨rfl, rfl⟩
                                  go_wp2_with (fail)
                                  refine (h2 _).mono ?_
                                  rintro e w' ⟨rfl, rfl⟩
                                  go_wp2_with (fail)
                                  refine (h3 _).mono ?_
                                  rintro e w' ⟨rfl, rfl⟩
                                  go_wp2_with (fail)
                                  refine (hM _).mono ?_
                                  rintro e w' ⟨rfl, rfl⟩
                                  go_wp2
                                  go_ret3
                                  exact ⟨ret_val (by rw [HF.out]; rfl), rfl⟩
                                · have HF : Hid (autoV (autoF l) = autoV (some (mailto ++ t, t))) := Lib.hid (by rw [HV.out, link_mail HB.out HSC.out, hm]; rfl)
                                  have hM := fun w => rmail_n hm (by omega) w
                                  clear hm HV HB HSC
                                  go_wp2_with (fail)
                                  refine (h1 _).mono ?_
                                  rintro e w' ⟨rfl, rfl⟩
                                  go_wp2_with (fail)
                                  refine (h2 _).mono ?_
                                  rintro e w' ⟨rfl, rfl⟩
                                  go_wp2_with (fail)
                                  refine (h3 _).mono ?_
                                  rintro e w' ⟨rfl, rfl⟩
                                  go_wp2_with (fail)
                                  refine (hM _).mono ?_
                                  rintro e w' ⟨rfl, rfl⟩
                                  go_wp2
                                  go_ret3
                                  exact ⟨ret_val (by rw [HF.out]; show _ = Value.tuple #[.string (sv (mailto ++ t)), .string (sv t), .int .i64 ((t.length : Int) + 2)]; rw [show (t.length : Int) + 2 = (i : Int) + 1 by omega]; rfl), rfl⟩
                            · have h3 := fun w => among_b (c := d) (o := [43, 46, 45]) (B := true) hM (by decide) w
                              have H := hgo (by rw [hn, hL, hG, hM]; rfl)
                              have HL1 : Hid (k + 1 ≠ 0 → ltr1 t = true) := Lib.hid (fun _ => hL1.out hk0)
                              clear hd hdd hn hgo hstp hL hS hL1 hk0 hG hM
                              go_wp2_with (fail)
                              refine (h1 _).mono ?_
                              rintro e w' ⟨rfl, rfl⟩
                              go_wp2_with (fail)
                              refine (h2 _).mono ?_
                              rintro e w' ⟨rfl, rfl⟩
                              go_wp2_with (fail)
                              refine (h3 _).mono ?_
                              rintro e w' ⟨rfl, rfl⟩
                              go_wp2
                              go_round
                              case rel => exact ⟨k + 1, by go_num, by omega, H, HL1⟩
                              case measure => simp [intOf]; omega
                          · have h2 := fun w => digit_b hG w
                            have H := hgo (by rw [hn, hL, hG]; rfl)
                            have HL1 : Hid (k + 1 ≠ 0 → ltr1 t = true) := Lib.hid (fun _ => hL1.out hk0)
                            clear hd hdd hn hgo hstp hL hS hL1 hk0 hG
                            go_wp2_with (fail)
                            refine (h1 _).mono ?_
                            rintro e w' ⟨rfl, rfl⟩
                            go_wp2_with (fail)
                            refine (h2 _).mono ?_
                            rintro e w' ⟨rfl, rfl⟩
                            go_wp2
                            go_round
                            case rel => exact ⟨k + 1, by go_num, by omega, H, HL1⟩
                            case measure => simp [intOf]; omega
                      · have h1 := fun w => letter_b hL w
                        have H := hgo (by rw [hn, hL]; rfl)
                        have HL1 : Hid (k + 1 ≠ 0 → ltr1 t = true) := Lib.hid (fun _ => by
                          by_cases hk0 : k = 0
                          · subst hk0; rw [ltr1_at hkt hd, hL]
                          · exact hL1.out hk0)
                        clear hd hdd hn hgo hstp hL hS hL1
                        go_wp2_with (fail)
                        refine (h1 _).mono ?_
                        rintro e w' ⟨rfl, rfl⟩
                        go_wp2
                        go_round
                        case rel => exact ⟨k + 1, by go_num, by omega, H, HL1⟩
                        case measure => simp [intOf]; omega
                    · have q2 : ¬ (k : Int) < (t.length : Int) := by omega
                      have HSC : Hid (schemeF t = false) := Lib.hid (by
                        have hdn : t.drop k = [] := List.drop_eq_nil_of_le (by omega)
                        by_cases hk0 : k = 0
                        · subst hk0
                          rw [List.drop_zero] at hdn
                          rw [hdn]; rfl
                        · rw [sch_is (hL1.out hk0) hk (by rw [hS.out, hdn]; rfl), hdn, pre_nil, Bool.and_false])
                      clear hS hL1
                      by_cases k2 : 2 ≤ k
                      · have z2 : (k : Int) ≥ 2 := by omega
                        by_cases k32 : k ≤ 32
                        · have z3 : (k : Int) ≤ 32 := by omega
                          rcases hm : mailF t with _ | _
                          · have HF : Hid (autoV (autoF l) = autoV none) := Lib.hid (by rw [HV.out, link_mail HB.out HSC.out, hm]; rfl)
                            have hM := fun w => rmail_n hm (by omega) w
                            clear hm HV HB HSC
                            go_wp2_with (fail)
                            refine (hM _).mono ?_
                            rintro e w' ⟨rfl, rfl⟩
                            go_wp2
                            go_ret3
                            exact ⟨ret_val (by rw [HF.out]; rfl), rfl⟩
                          · have HF : Hid (autoV (autoF l) = autoV (some (mailto ++ t, t))) := Lib.hid (by rw [HV.out, link_mail HB.out HSC.out, hm]; rfl)
                            have hM := fun w => rmail_n hm (by omega) w
                            clear hm HV HB HSC
                            go_wp2_with (fail)
                            refine (hM _).mono ?_
                            rintro e w' ⟨rfl, rfl⟩
                            go_wp2
                            go_ret3
                            exact ⟨ret_val (by rw [HF.out]; show _ = Value.tuple #[.string (sv (mailto ++ t)), .string (sv t), .int .i64 ((t.length : Int) + 2)]; rw [show (t.length : Int) + 2 = (i : Int) + 1 by omega]; rfl), rfl⟩
                        · have z3 : ¬ (k : Int) ≤ 32 := by omega
                          rcases hm : mailF t with _ | _
                          · have HF : Hid (autoV (autoF l) = autoV none) := Lib.hid (by rw [HV.out, link_mail HB.out HSC.out, hm]; rfl)
                            have hM := fun w => rmail_n hm (by omega) w
                            clear hm HV HB HSC
                            go_wp2_with (fail)
                            refine (hM _).mono ?_
                            rintro e w' ⟨rfl, rfl⟩
                            go_wp2
                            go_ret3
                            exact ⟨ret_val (by rw [HF.out]; rfl), rfl⟩
                          · have HF : Hid (autoV (autoF l) = autoV (some (mailto ++ t, t))) := Lib.hid (by rw [HV.out, link_mail HB.out HSC.out, hm]; rfl)
                            have hM := fun w => rmail_n hm (by omega) w
                            clear hm HV HB HSC
                            go_wp2_with (fail)
                            refine (hM _).mono ?_
                            rintro e w' ⟨rfl, rfl⟩
                            go_wp2
                            go_ret3
                            exact ⟨ret_val (by rw [HF.out]; show _ = Value.tuple #[.string (sv (mailto ++ t)), .string (sv t), .int .i64 ((t.length : Int) + 2)]; rw [show (t.length : Int) + 2 = (i : Int) + 1 by omega]; rfl), rfl⟩
                      · have z2 : ¬ (k : Int) ≥ 2 := by omega
                        rcases hm : mailF t with _ | _
                        · have HF : Hid (autoV (autoF l) = autoV none) := Lib.hid (by rw [HV.out, link_mail HB.out HSC.out, hm]; rfl)
                          have hM := fun w => rmail_n hm (by omega) w
                          clear hm HV HB HSC
                          go_wp2_with (fail)
                          refine (hM _).mono ?_
                          rintro e w' ⟨rfl, rfl⟩
                          go_wp2
                          go_ret3
                          exact ⟨ret_val (by rw [HF.out]; rfl), rfl⟩
                        · have HF : Hid (autoV (autoF l) = autoV (some (mailto ++ t, t))) := Lib.hid (by rw [HV.out, link_mail HB.out HSC.out, hm]; rfl)
                          have hM := fun w => rmail_n hm (by omega) w
                          clear hm HV HB HSC
                          go_wp2_with (fail)
                          refine (hM _).mono ?_
                          rintro e w' ⟨rfl, rfl⟩
                          go_wp2
                          go_ret3
                          exact ⟨ret_val (by rw [HF.out]; show _ = Value.tuple #[.string (sv (mailto ++ t)), .string (sv t), .int .i64 ((t.length : Int) + 2)]; rw [show (t.length : Int) + 2 = (i : Int) + 1 by omega]; rfl), rfl⟩
              · have y2' : ((c.toNat : Int) != 60) = false := by rw [bne, y2]; rfl
                have h2 : ((c.toNat : Int) == 62) = false := by rw [beq_iff_eq] at y2; rw [y2]; rfl
                have HF := hbd (by rw [hbad, y2, Bool.or_true]) h2
                have h2' : ((c.toNat : Int) != 62) = true := by rw [bne, h2]; rfl
                clear hgood hstop hbad hbd hc hD y1 y2 h2 x1f
                go_wp2
                go_ret3
                exact ⟨ret_val (by rw [HF.out]; rfl), rfl⟩
            · have y1' : ((c.toNat : Int) != 127) = false := by rw [bne, y1]; rfl
              have h2 : ((c.toNat : Int) == 62) = false := by rw [beq_iff_eq] at y1; rw [y1]; rfl
              have HF := hbd (by rw [hbad, y1, Bool.or_true, Bool.true_or]) h2
              have h2' : ((c.toNat : Int) != 62) = true := by rw [bne, h2]; rfl
              clear hgood hstop hbad hbd hc hD y1 h2 x1f
              go_wp2
              go_ret3
              exact ⟨ret_val (by rw [HF.out]; rfl), rfl⟩
          · have x1t : decide ((c.toNat : Int) ≤ 32) = true := decide_eq_true (by omega)
            have h2 : ((c.toNat : Int) == 62) = false := beq_eq_false_iff_ne.2 (by omega)
            have HF := hbd (by rw [hbad, x1t]; rfl) h2
            have h2' : ((c.toNat : Int) != 62) = true := by rw [bne, h2]; rfl
            clear hgood hstop hbad hbd hc hD h2 x1t
            go_wp2
            go_ret3
            exact ⟨ret_val (by rw [HF.out]; rfl), rfl⟩
        · have q1 : ¬ (i : Int) < (l.length : Int) := by omega
          have q1' : ((i : Int) == (l.length : Int)) = true := by rw [beq_iff_eq]; omega
          have HF : Hid (autoV (autoF l) = autoV none) := Lib.hid (by
            rw [rauto_end HC.out hi1 hi (by
              have hdn : l.drop i = [] := List.drop_eq_nil_of_le (by omega)
              rw [hD.out, hdn]; rfl) hlt])
          clear hgood hstop hD
          go_wp2
          go_ret3
          exact ⟨ret_val (by rw [HF.out]; rfl), rfl⟩
  · have hnil : l = [] := by
      cases l with
      | nil => rfl
      | cons c r => simp at h0
    subst hnil
    have heq : (sv []).toList.isEmpty = true := by rw [sv_toList]; rfl
    go_enter Tryd.func13, Tryd.ntmps13
    go_wp2
    go_ret3
    exact ⟨rfl, rfl⟩
theorem rauto_v {l : Bs} {v : Value} (h : autoV (autoF l) = v) (hl : l.length ≤ 4194304) (w : World) : Calls Tryd.prog 13 #[.string (sv l)] w fun e w' => e = .returned v ∧ w = w' := by subst h; exact rauto_any l w hl
end Go.Proofs.YtkmidilaabgooaaDoor
