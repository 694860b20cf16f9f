/-
  WireBack, joined.
-/
import Derived.Test.YtknaaaphdjdaoaaDoorWb
namespace Go.Proofs.YtknaaaphdjdaoaaDoor
open Go.RowKit Mem
set_option linter.unusedVariables false
set_option linter.unusedSimpArgs false

theorem encEn_len {e : En} (h : EnOk e) : (encEn e).length ≤ 8200 := by
  obtain ⟨_, _, h1, h2⟩ := h
  have p1 := pnz_len [e.tm, e.kd]
  have p2 := pnz_len [(e.dt.length : Int)]
  have p3 := pnz_len [(e.nd.length : Int)]
  have p4 := pnz_len e.nd
  simp only [List.length_cons, List.length_nil] at p1 p2 p3
  unfold encEn
  rw [List.length_append]
  by_cases k1 : e.kd = 1
  · rw [if_pos k1, List.length_append]; omega
  · rw [if_neg k1]
    by_cases k2 : e.kd = 2
    · have := (h2 k2).2.1
      rw [if_pos k2, List.length_append]; omega
    · rw [if_neg k2]; simp; omega
theorem encEns_len : ∀ (es : List En), (∀ e ∈ es, EnOk e) → (es.flatMap encEn).length ≤ 8200 * es.length
  | [], _ => by simp
  | a :: r, h => by
    have h1 := encEn_len (h a (by simp))
    have h2 := encEns_len r (fun e he => h e (by simp [he]))
    rw [List.flatMap_cons, List.length_append, List.length_cons]
    omega
theorem right_parts {m : Lt} (h : rightB m = true) : m.es.length ≤ 4 ∧ 0 < (encB m).length ∧ (encB m).length ≤ 1000000 := by
  obtain ⟨kd, fr, tt, tm, ix, lt, cm, rd, ok, es, si, st, sn, sd⟩ := m
  rw [rightB, Bool.and_eq_true, Bool.and_eq_true] at h
  obtain ⟨⟨hh, hf⟩, hk⟩ := h
  rw [head0, Bool.and_eq_true, Bool.and_eq_true, Bool.and_eq_true] at hh
  simp only at hh
  have f3 := bw_le hh.2
  have p0 := pnz_len [kd, fr, tt, tm]
  have p0' : 0 < (pnz [kd, fr, tt, tm]).length := by
    rw [pnz_cons, List.length_append]
    have := (pn_len kd.toNat).1
    omega
  have p1 := pnz_len [ix, lt]
  have p2 := pnz_len [bitN ok]
  have p3 := pnz_len [bitN ok, ix, rd]
  have p4 := pnz_len [si, st, (sn.length : Int)]
  have p5 := pnz_len sn
  have p6 := pnz_len [(sd.length : Int)]
  have p7 := pnz_len [rd]
  have p8 := pnz_len [ix, lt, cm, rd, (es.length : Int)]
  simp only [List.length_cons, List.length_nil] at p0 p1 p2 p3 p4 p6 p7 p8
  unfold encB
  simp only [List.length_append]
  have he : es.isEmpty = true → es.length = 0 := fun h => by simpa using h
  by_cases k1 : kd = 1
  · subst k1
    simp only [kindR, if_true, Bool.and_eq_true] at hk
    have := he hk.1.1.1.1
    rw [if_pos rfl]
    show es.length ≤ 4 ∧ _
    omega
  by_cases k2 : kd = 2
  · subst k2
    simp only [kindR] at hk
    rw [if_neg (by decide), if_pos trivial] at hk
    simp only [Bool.and_eq_true] at hk
    have := he hk.1.1.1.1.1
    rw [if_neg k1, if_pos rfl]
    show es.length ≤ 4 ∧ _
    omega
  by_cases k4 : kd = 4
  · subst k4
    simp only [kindR] at hk
    rw [if_neg (by decide), if_neg (by decide), if_neg (by decide), if_pos trivial] at hk
    simp only [Bool.and_eq_true] at hk
    have := he hk.1.1.1
    rw [if_neg k1, if_neg k2, if_pos rfl]
    show es.length ≤ 4 ∧ _
    omega
  by_cases k5 : kd = 5
  · subst k5
    simp only [kindR] at hk
    rw [if_neg (by decide), if_neg (by decide), if_neg (by decide), if_neg (by decide), if_pos trivial] at hk
    simp only [Bool.and_eq_true] at hk
    obtain ⟨⟨⟨⟨⟨⟨⟨⟨g1, g2⟩, g3⟩, g4⟩, g5⟩, _⟩, _⟩, _⟩, _⟩ := hk
    have := he g5
    have g3 := group_ok g3
    have g4 := of_decide_eq_true g4
    rw [if_neg k1, if_neg k2, if_neg k4, if_pos rfl]
    simp only [List.length_append]
    show es.length ≤ 4 ∧ _
    omega
  by_cases k3 : kd = 3
  · subst k3
    simp only [kindR] at hk
    rw [if_neg (by decide), if_neg (by decide), if_pos trivial] at hk
    simp only [Bool.and_eq_true] at hk
    obtain ⟨⟨⟨g1, g2⟩, _⟩, _⟩ := hk
    have g2 := of_decide_eq_true g2
    have g3 := encEns_len es (ents_ok (by omega) es 0 lt g1)
    rw [if_neg k1, if_neg k2, if_neg k4, if_neg k5]
    simp only [List.length_append]
    show es.length ≤ 4 ∧ _
    omega
  · simp only [kindR] at hk
    rw [if_neg k1, if_neg k2, if_neg k3, if_neg k4, if_neg k5] at hk
    cases hk
theorem decs_bad {l : Bs} {w w' : World} {e : Ending} (hn : ∀ m, decR l ≠ .ok m) (h : Decs w (decR l) e w') : DecN w e w' := by
  cases hd : decR l with
  | ok m => exact absurd hd (hn m)
  | error p => rw [hd] at h; exact decs_n h
theorem decs_ym {w w' : World} {e : Ending} {m : Lt} (h : Decs w (.ok m) e w') : DecY (fun xs w'' => ∃ ev nv dv, Value.agg xs = lval m ev nv dv ∧ LV w'' ev nv dv m ∧ Mod (fun _ => False) w w'') w e w' := by
  obtain ⟨ev, nv, dv, he, hl, hm⟩ := h
  obtain ⟨e1, e3, rfl⟩ := hl.1.val
  obtain ⟨n1, n3, rfl⟩ := hl.2.1.val
  obtain ⟨_, d1, d3, rfl, _⟩ := id hl.2.2
  exact ⟨_, _, _, _, _, _, _, _, _, _, _, _, _, _, _, _, _, _, _, _, he, ⟨_, _, _, rfl, hl, hm⟩, hm⟩
def zLt : Lt := ⟨0, 0, 0, 0, 0, 0, 0, 0, false, [], 0, 0, [], []⟩
/-- What stands of bytes that came in. -/
theorem tail_of (b : Bs) (a1 : Option Addr) (n1 q1 : Nat) (w : World) (hb : RdC w (.slice a1 n1 q1) b) (hl : b.length ≤ 1048576) : Tail b (.slice a1 n1 q1) w := by
  refine ⟨fun w' hm => ?_, fun w' => ?_, fun w' hm => hb.1.mod hm⟩
  · refine (dec_all a1 n1 q1 b w' (hb.mod hm) hl).mono fun e w2 h => ?_
    cases hd : decR b with
    | error p => rw [hd] at h; exact .inr (decs_n h)
    | ok m =>
      rw [hd] at h
      obtain ⟨hr, he⟩ := (decR_iff b m).1 hd
      refine .inl ((decs_y h).mono fun xs w3 ⟨ev, nv, dv, hx, hv⟩ w4 hm4 => ?_)
      rw [hx]
      have h1 := enc_any m ev nv dv w4 (by have := (right_parts hr).1; omega) (hv.mod hm4)
      refine h1.mono fun e w5 h5 => ?_
      have := h5.z
      rw [hr, ← he] at this
      exact this
  · have h1 := same17_any zLt zLt _ _ _ _ _ _ w' (lv_nil w' zLt rfl rfl rfl) (lv_nil w' zLt rfl rfl rfl)
    rw [(ltEq_iff zLt zLt).2 rfl] at h1
    exact h1
theorem wireBack_walk (m : Lt) (ev nv dv : Value) (a1 : Option Addr) (n1 q1 : Nat) (b : Bs) (cut : Int) (w : World) (hcut : -9223372036854775808 ≤ cut ∧ cut ≤ 9223372036854775807) (ha : LV w ev nv dv m) (ga : LtSmall m) (hb : RdC w (.slice a1 n1 q1) b) (hl : b.length ≤ 1048576) (hT : ErrT w) :
    Calls Tryd.prog 4 #[lval m ev nv dv, .slice a1 n1 q1, .int .i64 cut] w fun e w' => e = .returned (.bool true) ∧ Mod (fun _ => False) w w' := by
  refine back_core _ _ _ _ _ _ _ _ _ _ _ _ _ _ w (largeB m) (rightB m) (encB m) b a1 n1 q1 cut hcut hT
    (fun w' hm => large_any m ev nv dv w' (ha.mod hm) ga.1 ga.2.1 ga.2.2.1 ga.2.2.2)
    (fun w' hm => enc_any m ev nv dv w' ga.1 (ha.mod hm))
    (fun w' hm => right_any m ev nv dv w' ga.1 (ha.mod hm))
    (fun hr => (right_parts hr).2)
    (fun hr w' a c hm hrd => ?_) (fun hr w' a n c l hm hrd hcase => ?_) (tail_of b a1 n1 q1 w hb hl)
  · refine (dec_all a _ c _ w' hrd (by have := (right_parts hr).2; omega)).mono fun e w2 h => ?_
    rw [(decR_iff (encB m) m).2 ⟨hr, rfl⟩] at h
    refine (decs_ym h).mono fun xs w3 ⟨eu, nu, du, hx, hv, h2m⟩ w4 hm4 => ?_
    rw [hx]
    have h1 := same17_any m m eu nu du ev nv dv w4 (hv.mod hm4) (ha.mod (md_then hm (md_then h2m hm4)))
    rw [(ltEq_iff m m).2 rfl] at h1
    exact h1
  · have hll : l.length ≤ 1048576 := by
      have h1 := (right_parts hr).2.2
      rcases hcase with ⟨x, _, he⟩ | ⟨y, he⟩
      · have := congrArg List.length he; rw [List.length_append] at this; omega
      · rw [he, List.length_append]; simp; omega
    refine (dec_all a n c l w' hrd hll).mono fun e w2 h => decs_bad (fun m' => ?_) h
    rcases hcase with ⟨x, hx, he⟩ | ⟨y, he⟩
    · exact dec_short hr he hx m'
    · rw [he]; exact dec_more hr (by simp) m'
end Go.Proofs.YtknaaaphdjdaoaaDoor
