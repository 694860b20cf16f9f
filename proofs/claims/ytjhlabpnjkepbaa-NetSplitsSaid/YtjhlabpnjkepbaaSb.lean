/-
  NetSplits' walk.
-/
import Derived.Test.YtjhlabpnjkepbaaSa
namespace Go.Proofs.Ytjhlabpnjkepbaa
open Go.RowKit Mem
set_option linter.unusedVariables false

theorem reach_self (s : Nat) (f : Int) : reach s f f = nodeOk f := by
  unfold reach nodeOk
  by_cases h : 0 ≤ f ∧ f ≤ 63
  · rw [decide_eq_true (by omega), decide_eq_true h]; simp
  · rw [decide_eq_false (by omega), decide_eq_false h]; rfl
theorem reach_sym (s : Nat) (f t : Int) : reach s f t = reach s t f := by
  unfold reach
  by_cases h : 0 ≤ f ∧ f < 64 ∧ 0 ≤ t ∧ t < 64
  · rw [decide_eq_true h, decide_eq_true (by omega), Bool.true_and, Bool.true_and, Bool.eq_iff_iff]
    simp only [beq_iff_eq]
    exact eq_comm
  · rw [decide_eq_false h, decide_eq_false (by omega)]; rfl
theorem reach_nodes {s : Nat} {f t : Int} (h : reach s f t = true) : nodeOk f = true ∧ nodeOk t = true := by
  unfold reach at h
  simp only [Bool.and_eq_true, decide_eq_true_eq] at h
  unfold nodeOk
  exact ⟨decide_eq_true (by omega), decide_eq_true (by omega)⟩
theorem reach_trans {s : Nat} {f t u : Int} (h : reach s f t = true) (k : reach s t u = true) : reach s f u = true := by
  unfold reach at *
  simp only [Bool.and_eq_true, decide_eq_true_eq, beq_iff_eq] at *
  exact ⟨by omega, h.2.trans k.2⟩
theorem take_sent (s : Nat) (f t : Int) (b : List UInt8) : takeOk (sent [] f t b) s 0 = reach s f t := by
  unfold sent
  split
  · show (decide ((0 : Int) ≤ 0) && reach s f t) = reach s f t
    rfl
  · rename_i h
    have : reach s f t = false := by
      cases hr : reach s f t with
      | false => rfl
      | true =>
        have := reach_nodes hr
        have h1 : 0 ≤ f ∧ f ≤ 63 := of_decide_eq_true this.1
        have h2 : 0 ≤ t ∧ t ≤ 63 := of_decide_eq_true this.2
        exact absurd ⟨h1.1, h2.1, h1.2, h2.2, by decide⟩ h
    rw [this]; rfl
theorem good_sent (f t : Int) (b : List UInt8) (hb : b.length ≤ 1000000) {L : List Let} (h : Good L) : Good (sent L f t b) := by
  unfold sent
  split
  · rename_i hh
    intro l hl
    rcases List.mem_append.1 hl with hl | hl
    · exact h l hl
    · simp only [List.mem_cons, List.not_mem_nil, or_false] at hl
      subst hl
      exact ⟨hb, hh.1, hh.2.2.1, hh.2.1, hh.2.2.2.1⟩
  · exact h
theorem len_taken_no {L : List Let} {s : Nat} {i : Int} (h : takeOk L s i = false) : taken L s i = L := by unfold taken; rw [h]; rfl
theorem len_sent (f t : Int) (b : List UInt8) : (sent [] f t b).length = if nodeOk f && nodeOk t then 1 else 0 := by
  unfold sent nodeOk
  by_cases h : 0 ≤ f ∧ f ≤ 63
  · by_cases k : 0 ≤ t ∧ t ≤ 63
    · rw [if_pos (by simp; omega), decide_eq_true h, decide_eq_true k]; rfl
    · rw [if_neg (by omega), decide_eq_true h, decide_eq_false k]; rfl
  · rw [if_neg (by omega), decide_eq_false h]; rfl

/-- What the law leaves. -/
def Ends (w : World) (e : Ending) (w' : World) : Prop := e = .returned (.bool true) ∧ Below w.heap.size w w'
theorem ends_of {B g s : Nat} {L : List Let} {w w' : World} (h : St B g L s w w') : Below w.heap.size w w' := h.2.1.below_of (Nat.le_refl _) (fun _ h => h.elim)

set_option maxRecDepth 100000 in
set_option maxHeartbeats 6400000 in
theorem core_no (s : Nat) (f t u : Int) (w : World) (hs : s < 18446744073709551616) (hf : -9223372036854775808 ≤ f) (hf' : f ≤ 9223372036854775807) (ht : -9223372036854775808 ≤ t) (ht' : t ≤ 9223372036854775807) (hr : reach s f t = false) :
    Calls Try.prog 5 #[.int .u64 s, .int .i64 f, .int .i64 t, .int .i64 u] w (Ends w) := by
  have kc := fun (w : World) (C : Array Value) (n c : Nat) => Lib.run_convert_bytes_const (P := Try.prog) w 32 5 C n c Try.underlying32 Try.underlying5
  have hr2 : reach s t f = false := by rw [← reach_sym]; exact hr
  have hlen := len_sent f t [120]
  have hgood : Good (sent [] f t [120]) := good_sent f t [120] (by decide) (fun l hl => by cases hl)
  have htk : takeOk (sent [] f t [120]) s 0 = false := by rw [take_sent]; exact hr
  have htd := len_taken_no htk
  have cf : (f < 0 ∧ nodeOk f = false) ∨ (0 ≤ f ∧ f ≤ 63 ∧ nodeOk f = true) ∨ (0 ≤ f ∧ 63 < f ∧ nodeOk f = false) := by
    unfold nodeOk
    by_cases h1 : f < 0
    · exact .inl ⟨h1, decide_eq_false (by omega)⟩
    · by_cases h2 : f ≤ 63
      · exact .inr (.inl ⟨by omega, h2, decide_eq_true (by omega)⟩)
      · exact .inr (.inr ⟨by omega, by omega, decide_eq_false (by omega)⟩)
  have ct : (t < 0 ∧ nodeOk t = false) ∨ (0 ≤ t ∧ t ≤ 63 ∧ nodeOk t = true) ∨ (0 ≤ t ∧ 63 < t ∧ nodeOk t = false) := by
    unfold nodeOk
    by_cases h1 : t < 0
    · exact .inl ⟨h1, decide_eq_false (by omega)⟩
    · by_cases h2 : t ≤ 63
      · exact .inr (.inl ⟨by omega, h2, decide_eq_true (by omega)⟩)
      · exact .inr (.inr ⟨by omega, by omega, decide_eq_false (by omega)⟩)
  rcases cf with ⟨f0, nf⟩ | ⟨f0, f1, nf⟩ | ⟨f0, f1, nf⟩ <;> rcases ct with ⟨t0, nt⟩ | ⟨t0, t1, nt⟩ | ⟨t0, t1, nt⟩
  all_goals
    rw [nf, nt] at hlen
    first
      | rw [show (if ((true && true) : Bool) = true then (1 : Nat) else 0) = 1 from rfl] at hlen
      | rw [show (if ((true && false) : Bool) = true then (1 : Nat) else 0) = 0 from rfl] at hlen
      | rw [show (if ((false && true) : Bool) = true then (1 : Nat) else 0) = 0 from rfl] at hlen
      | rw [show (if ((false && false) : Bool) = true then (1 : Nat) else 0) = 0 from rfl] at hlen
    have hff : reach s f f = nodeOk f := reach_self s f
    have htt : reach s t t = nodeOk t := reach_self s t
    rw [nf] at hff
    rw [nt] at htt
    have Hgood := Lib.hid hgood
    have Htk := Lib.hid htk
    have Htd := Lib.hid htd
    have Hlen := Lib.hid hlen
    have Hff := Lib.hid hff
    have Htt := Lib.hid htt
    have Hr := Lib.hid hr
    have Hr2 := Lib.hid hr2
    clear nf nt hlen hff htt hgood htk htd hr hr2
    go_enter Try.func5, Try.ntmps5
    go_wp2_with (fail)
    refine (shown_any w).mono ?_
    rintro e wa ⟨rfl, hma⟩
    go_wp2_with (fail)
    refine (st_new wa).mono ?_
    rintro e w1 ⟨g, rfl, s1'⟩
    have s1 : St wa.heap.size g [] 0 w w1 := ⟨hma.size, hma.trans s1'.2.1 (fun _ h => h.elim), s1'.2.2⟩
    clear s1'
    go_wp2_with (fail)
    refine (st_split s1 s hs).mono ?_
    rintro e w2 ⟨rfl, s2⟩
    go_wp2_with (fail)
    refine (st_reach s2 f f hf hf' hf hf').mono ?_
    rintro e w3 ⟨rfl, s3⟩
    rw [Hff.out]
    go_wp2_with (fail)
    refine (st_reach s3 t t ht ht' ht ht').mono ?_
    rintro e w4 ⟨rfl, s4⟩
    rw [Htt.out]
    go_wp2_with (fail)
    refine (st_reach s4 f t hf hf' ht ht').mono ?_
    rintro e w5 ⟨rfl, s5⟩
    rw [Hr.out]
    go_wp2_with (fail)
    refine (st_reach s5 t f ht ht' hf hf').mono ?_
    rintro e w6 ⟨rfl, s6⟩
    rw [Hr2.out]
    go_wp2_with (fail)
    refine (st_reach s6 f t hf hf' ht ht').mono ?_
    rintro e w7 ⟨rfl, s7⟩
    rw [Hr.out]
    go_wp2_with (fail)
    refine (st_reach s7 f t hf hf' ht ht').mono ?_
    rintro e w8 ⟨rfl, s8⟩
    rw [Hr.out]
    go_wp2_with (fail)
    refine (st_send (s8.quiet ((Mod.refl _ w8).alloc _)) f t _ [120] (rd_one w8 120) (by decide) hf hf' ht ht').mono ?_
    rintro e w9 ⟨rfl, s9⟩
    go_wp2_with (fail)
    refine (st_take s9 Hgood.out 0).mono ?_
    rintro e w10 ⟨s10, _, v10, rfl, _⟩
    rw [Htd.out] at s10
    rw [Htk.out]
    go_wp2_with (fail)
    refine (st_reach s10 f t hf hf' ht ht').mono ?_
    rintro e w11 ⟨rfl, s11⟩
    rw [Hr.out]
    go_wp2_with (fail)
    refine (st_len s11).mono ?_
    rintro e _ ⟨rfl, rfl⟩
    rw [Hlen.out]
    go_wp2
    go_ret
    exact ⟨rfl, ends_of s11⟩

set_option maxRecDepth 100000 in
set_option maxHeartbeats 6400000 in
theorem core_yes (s : Nat) (f t u : Int) (w : World) (hs : s < 18446744073709551616) (hf : -9223372036854775808 ≤ f) (hf' : f ≤ 9223372036854775807) (ht : -9223372036854775808 ≤ t) (ht' : t ≤ 9223372036854775807) (hu : -9223372036854775808 ≤ u) (hu' : u ≤ 9223372036854775807) (hr : reach s f t = true) :
    Calls Try.prog 5 #[.int .u64 s, .int .i64 f, .int .i64 t, .int .i64 u] w (Ends w) := by
  have kc := fun (w : World) (C : Array Value) (n c : Nat) => Lib.run_convert_bytes_const (P := Try.prog) w 32 5 C n c Try.underlying32 Try.underlying5
  have hr2 : reach s t f = true := by rw [← reach_sym]; exact hr
  obtain ⟨nf, nt⟩ := reach_nodes hr
  have hff : reach s f f = true := by rw [reach_self]; exact nf
  have htt : reach s t t = true := by rw [reach_self]; exact nt
  have f0 : 0 ≤ f ∧ f ≤ 63 := of_decide_eq_true nf
  have t0 : 0 ≤ t ∧ t ≤ 63 := of_decide_eq_true nt
  obtain ⟨f0, f1⟩ := f0
  obtain ⟨t0, t1⟩ := t0
  have hgood : Good (sent [] f t [120]) := good_sent f t [120] (by decide) (fun l hl => by cases hl)
  have htk : takeOk (sent [] f t [120]) s 0 = true := by rw [take_sent]; exact hr
  have hlen : (taken (sent [] f t [120]) s 0).length = 0 := by
    unfold taken
    rw [if_pos htk]
    have h1 := cut_len (sent [] f t [120]) 0 (by rw [len_sent, nf, nt]; decide)
    rw [len_sent, nf, nt] at h1
    exact h1
  have htu := fun h => reach_trans (u := u) hr h
  have Hgood := Lib.hid hgood
  have Htk := Lib.hid htk
  have Hlen := Lib.hid hlen
  have Hff := Lib.hid hff
  have Htt := Lib.hid htt
  have Hr := Lib.hid hr
  have Hr2 := Lib.hid hr2
  by_cases hc : reach s t u = true
  · have Hc := Lib.hid hc
    have Hc2 := Lib.hid (htu hc)
    clear nf nt hlen hff htt hgood htk hr hr2 htu hc
    go_enter Try.func5, Try.ntmps5
    go_wp2_with (fail)
    refine (shown_any w).mono ?_
    rintro e wa ⟨rfl, hma⟩
    go_wp2_with (fail)
    refine (st_new wa).mono ?_
    rintro e w1 ⟨g, rfl, s1'⟩
    have s1 : St wa.heap.size g [] 0 w w1 := ⟨hma.size, hma.trans s1'.2.1 (fun _ h => h.elim), s1'.2.2⟩
    clear s1'
    go_wp2_with (fail)
    refine (st_split s1 s hs).mono ?_
    rintro e w2 ⟨rfl, s2⟩
    go_wp2_with (fail)
    refine (st_reach s2 f f hf hf' hf hf').mono ?_
    rintro e w3 ⟨rfl, s3⟩
    rw [Hff.out]
    go_wp2_with (fail)
    refine (st_reach s3 t t ht ht' ht ht').mono ?_
    rintro e w4 ⟨rfl, s4⟩
    rw [Htt.out]
    go_wp2_with (fail)
    refine (st_reach s4 f t hf hf' ht ht').mono ?_
    rintro e w5 ⟨rfl, s5⟩
    rw [Hr.out]
    go_wp2_with (fail)
    refine (st_reach s5 t f ht ht' hf hf').mono ?_
    rintro e w6 ⟨rfl, s6⟩
    rw [Hr2.out]
    go_wp2_with (fail)
    refine (st_reach s6 f t hf hf' ht ht').mono ?_
    rintro e w7 ⟨rfl, s7⟩
    rw [Hr.out]
    go_wp2_with (fail)
    refine (st_reach s7 f t hf hf' ht ht').mono ?_
    rintro e w8 ⟨rfl, s8⟩
    rw [Hr.out]
    go_wp2_with (fail)
    refine (st_reach s8 t u ht ht' hu hu').mono ?_
    rintro e w8a ⟨rfl, s8a⟩
    rw [Hc.out]
    go_wp2_with (fail)
    refine (st_reach s8a f u hf hf' hu hu').mono ?_
    rintro e w8b ⟨rfl, s8b⟩
    rw [Hc2.out]
    go_wp2_with (fail)
    refine (st_send (s8b.quiet ((Mod.refl _ w8b).alloc _)) f t _ [120] (rd_one w8b 120) (by decide) hf hf' ht ht').mono ?_
    rintro e w9 ⟨rfl, s9⟩
    go_wp2_with (fail)
    refine (st_take s9 Hgood.out 0).mono ?_
    rintro e w10 ⟨s10, _, v10, rfl, _⟩
    rw [Htk.out]
    go_wp2_with (fail)
    refine (st_reach s10 f t hf hf' ht ht').mono ?_
    rintro e w11 ⟨rfl, s11⟩
    rw [Hr.out]
    go_wp2_with (fail)
    refine (st_len s11).mono ?_
    rintro e _ ⟨rfl, rfl⟩
    rw [Hlen.out]
    go_wp2
    go_ret
    exact ⟨rfl, ends_of s11⟩
  · have hc' : reach s t u = false := by simpa using hc
    have Hc := Lib.hid hc'
    clear nf nt hlen hff htt hgood htk hr hr2 htu hc hc'
    go_enter Try.func5, Try.ntmps5
    go_wp2_with (fail)
    refine (shown_any w).mono ?_
    rintro e wa ⟨rfl, hma⟩
    go_wp2_with (fail)
    refine (st_new wa).mono ?_
    rintro e w1 ⟨g, rfl, s1'⟩
    have s1 : St wa.heap.size g [] 0 w w1 := ⟨hma.size, hma.trans s1'.2.1 (fun _ h => h.elim), s1'.2.2⟩
    clear s1'
    go_wp2_with (fail)
    refine (st_split s1 s hs).mono ?_
    rintro e w2 ⟨rfl, s2⟩
    go_wp2_with (fail)
    refine (st_reach s2 f f hf hf' hf hf').mono ?_
    rintro e w3 ⟨rfl, s3⟩
    rw [Hff.out]
    go_wp2_with (fail)
    refine (st_reach s3 t t ht ht' ht ht').mono ?_
    rintro e w4 ⟨rfl, s4⟩
    rw [Htt.out]
    go_wp2_with (fail)
    refine (st_reach s4 f t hf hf' ht ht').mono ?_
    rintro e w5 ⟨rfl, s5⟩
    rw [Hr.out]
    go_wp2_with (fail)
    refine (st_reach s5 t f ht ht' hf hf').mono ?_
    rintro e w6 ⟨rfl, s6⟩
    rw [Hr2.out]
    go_wp2_with (fail)
    refine (st_reach s6 f t hf hf' ht ht').mono ?_
    rintro e w7 ⟨rfl, s7⟩
    rw [Hr.out]
    go_wp2_with (fail)
    refine (st_reach s7 f t hf hf' ht ht').mono ?_
    rintro e w8 ⟨rfl, s8⟩
    rw [Hr.out]
    go_wp2_with (fail)
    refine (st_reach s8 t u ht ht' hu hu').mono ?_
    rintro e w8a ⟨rfl, s8a⟩
    rw [Hc.out]
    go_wp2_with (fail)
    refine (st_send (s8a.quiet ((Mod.refl _ w8a).alloc _)) f t _ [120] (rd_one w8a 120) (by decide) hf hf' ht ht').mono ?_
    rintro e w9 ⟨rfl, s9⟩
    go_wp2_with (fail)
    refine (st_take s9 Hgood.out 0).mono ?_
    rintro e w10 ⟨s10, _, v10, rfl, _⟩
    rw [Htk.out]
    go_wp2_with (fail)
    refine (st_reach s10 f t hf hf' ht ht').mono ?_
    rintro e w11 ⟨rfl, s11⟩
    rw [Hr.out]
    go_wp2_with (fail)
    refine (st_len s11).mono ?_
    rintro e _ ⟨rfl, rfl⟩
    rw [Hlen.out]
    go_wp2
    go_ret
    exact ⟨rfl, ends_of s11⟩
end Go.Proofs.Ytjhlabpnjkepbaa
