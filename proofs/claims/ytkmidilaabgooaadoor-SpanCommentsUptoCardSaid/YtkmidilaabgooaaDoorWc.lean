/-
  What SpanComments' walk shows.
-/
import Derived.Test.YtkmidilaabgooaaDoorWf
import Derived.Test.YtkmidilaabgooaaDoorWe
namespace Go.Proofs.YtkmidilaabgooaaDoor
open Go.RowKit Mem
set_option linter.unusedVariables false
set_option linter.unusedSimpArgs false

/-- What is asked of a text that is HTML to its end and no tag. -/
structure Com (L b : Bs) : Prop where
  whole : rawN (L ++ b) = L.length
  part : rawN (L.take (L.length - 1)) = 0
  tag : tagN L = 0
  len : 1 ≤ L.length ∧ L.length ≤ 2000
theorem com_of {pre q t e' b L : Bs} {c : UInt8} (hL : L = pre ++ (q ++ t ++ c :: e')) (hraw : ∀ z, rawF (pre ++ (q ++ t ++ z)) = uptoF (c :: e') (q ++ t ++ z)) (hc : c ∉ q ++ t) (ht : tagF L = none) (hl : L.length ≤ 2000) : Com L b := by
  have hlen : L.length = pre.length + (q ++ t).length + (e'.length + 1) := by rw [hL]; simp; omega
  refine ⟨?_, ?_, by unfold tagN; rw [ht]; rfl, by omega, hl⟩
  · unfold rawN
    have e : L ++ b = pre ++ (q ++ t ++ (c :: e' ++ b)) := by rw [hL]; simp
    have h := upto_far c e' b (q ++ t) hc
    rw [List.append_assoc] at h
    rw [e, hraw, h]
    show (pre ++ (q ++ t ++ (c :: e' ++ b))).length - b.length = _
    rw [← e, List.length_append]
    omega
  · have e : L.take (L.length - 1) = pre ++ (q ++ t ++ (c :: e').dropLast) := by
      rw [← List.dropLast_eq_take, hL, List.dropLast_append_of_ne_nil (by simp), List.dropLast_append_of_ne_nil (by simp)]
    unfold rawN
    rw [e, hraw, upto_none c e' _ (by simp) _ hc]
    rfl
theorem com0 {x : Bs} (b : Bs) (h : ∀ c ∈ x, notB [45, 62, 63, 93] c = true) (hx : x.length ≤ 1000) : Com ([60, 33, 45, 45] ++ 32 :: x ++ [45, 45, 62]) b := by
  have hn : ∀ c : UInt8, ([45, 62, 63, 93] : Bs).contains c = true → c ∉ x := fun c hc hm => by have := h c hm; unfold notB at this; rw [hc] at this; cases this
  refine com_of (pre := [60, 33, 45, 45]) (q := []) (t := 32 :: x) (c := 45) (e' := [45, 62]) (by simp) (fun z => ?_) (by simp; exact hn 45 (by decide)) (tag_none 33 _ (by decide) (by decide)) (by simp; omega)
  exact (raw_of_not_tag (tag_none 33 _ (by decide) (by decide))).trans rfl
theorem com1 {x : Bs} (b : Bs) (h : ∀ c ∈ x, notB [45, 62, 63, 93] c = true) (hx : x.length ≤ 1000) : Com ([60, 63] ++ 32 :: x ++ [63, 62]) b := by
  have hn : ∀ c : UInt8, ([45, 62, 63, 93] : Bs).contains c = true → c ∉ x := fun c hc hm => by have := h c hm; unfold notB at this; rw [hc] at this; cases this
  refine com_of (pre := [60, 63]) (q := []) (t := 32 :: x) (c := 63) (e' := [62]) (by simp) (fun z => ?_) (by simp; exact hn 63 (by decide)) (tag_none 63 _ (by decide) (by decide)) (by simp; omega)
  exact (raw_of_not_tag (tag_none 63 _ (by decide) (by decide))).trans rfl
theorem com2 {x : Bs} (b : Bs) (h : ∀ c ∈ x, notB [45, 62, 63, 93] c = true) (hx : x.length ≤ 1000) : Com ([60, 33, 65] ++ 32 :: x ++ [62]) b := by
  have hn : ∀ c : UInt8, ([45, 62, 63, 93] : Bs).contains c = true → c ∉ x := fun c hc hm => by have := h c hm; unfold notB at this; rw [hc] at this; cases this
  refine com_of (pre := [60, 33]) (q := [65]) (t := 32 :: x) (c := 62) (e' := []) (by simp) (fun z => ?_) (by simp; exact hn 62 (by decide)) (tag_none 33 _ (by decide) (by decide)) (by simp; omega)
  exact (raw_of_not_tag (tag_none 33 _ (by decide) (by decide))).trans rfl
theorem com3 {x : Bs} (b : Bs) (h : ∀ c ∈ x, notB [45, 62, 63, 93] c = true) (hx : x.length ≤ 1000) : Com ([60, 33, 91, 67, 68, 65, 84, 65, 91] ++ 32 :: x ++ [93, 93, 62]) b := by
  have hn : ∀ c : UInt8, ([45, 62, 63, 93] : Bs).contains c = true → c ∉ x := fun c hc hm => by have := h c hm; unfold notB at this; rw [hc] at this; cases this
  refine com_of (pre := [60, 33, 91, 67, 68, 65, 84, 65, 91]) (q := []) (t := 32 :: x) (c := 93) (e' := [93, 62]) (by simp) (fun z => ?_) (by simp; exact hn 93 (by decide)) (tag_none 33 _ (by decide) (by decide)) (by simp; omega)
  exact (raw_of_not_tag (tag_none 33 _ (by decide) (by decide))).trans rfl
/-- Sizes, and what stands behind a literal. -/
theorem add_lit (a x : Bs) : (⟨a.toArray⟩ : ByteArray) ++ sv x = sv (a ++ x) := sv_add a x
theorem sz_le {x : Bs} {n : Nat} (h : x.length ≤ n) (hn : n ≤ 8388608) : ((sv x).size : Int) ≤ 8388608 := by rw [sv_size]; omega

set_option maxRecDepth 100000 in
set_option maxHeartbeats 1600000 in
theorem spanComments_walk (s b : Bs) (m : Int) (w : World) (hb : s.length + b.length ≤ 1048576) (hm : w.cell? ⟨0, 0, none⟩ = some (.int .i64 m)) :
    Calls Tryd.prog 7 #[.string (sv s), .string (sv b)] w fun e w' => e = .returned (.bool true) ∧ Mod (fun _ => False) w w' := by
  have HM := Lib.hid hm
  clear hm
  obtain ⟨x, hx, hx1, hx2, hx3⟩ := takeF_is (notB [45, 62, 63, 93]) 1000 s []
  have hxl : x.length ≤ 1000 := by
    rcases hx2 with h | rfl
    · simpa using h
    · simp
  rw [List.nil_append] at hx
  have HX := Lib.hid hx
  have C0 := Lib.hid (com0 b hx1 hxl)
  have C1 := Lib.hid (com1 b hx1 hxl)
  have C2 := Lib.hid (com2 b hx1 hxl)
  have C3 := Lib.hid (com3 b hx1 hxl)
  have HB : Hid (s.length ≤ 1048576 ∧ b.length ≤ 1048576) := Lib.hid (by omega)
  have a1 : (⟨#[32]⟩ : ByteArray) ++ sv x = sv (32 :: x) := add_lit [32] x
  have b0 : (⟨#[60, 33, 45, 45]⟩ : ByteArray) ++ sv (32 :: x) = sv ([60, 33, 45, 45] ++ 32 :: x) := add_lit _ _
  have b1 : (⟨#[60, 63]⟩ : ByteArray) ++ sv (32 :: x) = sv ([60, 63] ++ 32 :: x) := add_lit _ _
  have b2 : (⟨#[60, 33, 65]⟩ : ByteArray) ++ sv (32 :: x) = sv ([60, 33, 65] ++ 32 :: x) := add_lit _ _
  have b3 : (⟨#[60, 33, 91, 67, 68, 65, 84, 65, 91]⟩ : ByteArray) ++ sv (32 :: x) = sv ([60, 33, 91, 67, 68, 65, 84, 65, 91] ++ 32 :: x) := add_lit _ _
  have c0 : sv ([60, 33, 45, 45] ++ 32 :: x) ++ (⟨#[45, 45, 62]⟩ : ByteArray) = sv ([60, 33, 45, 45] ++ 32 :: x ++ [45, 45, 62]) := sv_add _ [45, 45, 62]
  have c1 : sv ([60, 63] ++ 32 :: x) ++ (⟨#[63, 62]⟩ : ByteArray) = sv ([60, 63] ++ 32 :: x ++ [63, 62]) := sv_add _ [63, 62]
  have c2 : sv ([60, 33, 65] ++ 32 :: x) ++ (⟨#[62]⟩ : ByteArray) = sv ([60, 33, 65] ++ 32 :: x ++ [62]) := sv_add _ [62]
  have c3 : sv ([60, 33, 91, 67, 68, 65, 84, 65, 91] ++ 32 :: x) ++ (⟨#[93, 93, 62]⟩ : ByteArray) = sv ([60, 33, 91, 67, 68, 65, 84, 65, 91] ++ 32 :: x ++ [93, 93, 62]) := sv_add _ [93, 93, 62]
  have z1 : ((sv x).size : Int) ≤ 8388608 := sz_le hxl (by decide)
  have z2 : ((sv (32 :: x)).size : Int) ≤ 8388608 := sz_le (n := 1001) (by simp; omega) (by decide)
  have y0 : ((sv ([60, 33, 45, 45] ++ 32 :: x)).size : Int) ≤ 8388608 := sz_le (n := 1020) (by simp; omega) (by decide)
  have y1 : ((sv ([60, 63] ++ 32 :: x)).size : Int) ≤ 8388608 := sz_le (n := 1020) (by simp; omega) (by decide)
  have y2 : ((sv ([60, 33, 65] ++ 32 :: x)).size : Int) ≤ 8388608 := sz_le (n := 1020) (by simp; omega) (by decide)
  have y3 : ((sv ([60, 33, 91, 67, 68, 65, 84, 65, 91] ++ 32 :: x)).size : Int) ≤ 8388608 := sz_le (n := 1020) (by simp; omega) (by decide)
  have zb : ((sv b).size : Int) ≤ 8388608 := sz_le (n := 1048576) (by omega) (by decide)
  obtain ⟨L0, hL0⟩ : ∃ L, ([60, 33, 45, 45] ++ 32 :: x ++ [45, 45, 62] : Bs) = L := ⟨_, rfl⟩
  obtain ⟨L1, hL1⟩ : ∃ L, ([60, 63] ++ 32 :: x ++ [63, 62] : Bs) = L := ⟨_, rfl⟩
  obtain ⟨L2, hL2⟩ : ∃ L, ([60, 33, 65] ++ 32 :: x ++ [62] : Bs) = L := ⟨_, rfl⟩
  obtain ⟨L3, hL3⟩ : ∃ L, ([60, 33, 91, 67, 68, 65, 84, 65, 91] ++ 32 :: x ++ [93, 93, 62] : Bs) = L := ⟨_, rfl⟩
  rw [hL0] at c0 C0
  rw [hL1] at c1 C1
  rw [hL2] at c2 C2
  rw [hL3] at c3 C3
  obtain ⟨M0, hM0⟩ : ∃ L, ([60, 33, 45, 45] ++ 32 :: x : Bs) = L := ⟨_, rfl⟩
  obtain ⟨M1, hM1⟩ : ∃ L, ([60, 63] ++ 32 :: x : Bs) = L := ⟨_, rfl⟩
  obtain ⟨M2, hM2⟩ : ∃ L, ([60, 33, 65] ++ 32 :: x : Bs) = L := ⟨_, rfl⟩
  obtain ⟨M3, hM3⟩ : ∃ L, ([60, 33, 91, 67, 68, 65, 84, 65, 91] ++ 32 :: x : Bs) = L := ⟨_, rfl⟩
  obtain ⟨t, ht⟩ : ∃ t, (32 :: x : Bs) = t := ⟨_, rfl⟩
  rw [hM0] at b0 c0 y0
  rw [hM1] at b1 c1 y1
  rw [hM2] at b2 c2 y2
  rw [hM3] at b3 c3 y3
  rw [ht] at a1 b0 b1 b2 b3 z2
  clear hL0 hL1 hL2 hL3 hM0 hM1 hM2 hM3 ht hx hx1 hx2 hx3 hxl
  go_enter Tryd.func7, Tryd.ntmps7
  go_wp2_with (fail)
  refine (shown_any m _ HM.out).mono ?_
  rintro e w1 ⟨rfl, h1⟩
  have H1 := Lib.hid h1
  clear h1
  go_wp2_with (fail)
  refine (without_any s [45, 62, 63, 93] 1000 _ (by decide) HB.out.1 (by decide)).mono ?_
  rintro e w2 ⟨rfl, h2⟩
  rw [HX.out]
  have H2 := Lib.hid (H1.out.trans h2 (fun _ h => h.elim))
  clear h2 H1
  have HN : Hid (Mod (fun _ => False) w (w2.alloc (.cells #[.string (sv L0), .string (sv L1), .string (sv L2), .string (sv L3)] 9)) ∧ Blk (w2.alloc (.cells #[.string (sv L0), .string (sv L1), .string (sv L2), .string (sv L3)] 9)) w2.heap.size #[.string (sv L0), .string (sv L1), .string (sv L2), .string (sv L3)] 9) := Lib.hid ⟨H2.out.alloc _, Blk.new _ _ _⟩
  go_wp2
  go_loopw [8] (fun i wr => ∃ k : Nat, i = .int .i64 k ∧ k ≤ 4 ∧ Hid (Mod (fun _ => False) w wr ∧ Blk wr w2.heap.size #[.string (sv L0), .string (sv L1), .string (sv L2), .string (sv L3)] 9)) (fun i _ => 4 - (intOf i).toNat)
  case atStart => exact ⟨0, rfl, by omega, HN⟩
  case round =>
    obtain ⟨k, rfl, hk, hK⟩ := hrel
    clear HN H2
    have hx : k < 4 ∨ k = 4 := by omega
    rcases hx with hk4 | rfl
    · obtain ⟨L, hcell, hC⟩ : ∃ L, wr.cell? ⟨w2.heap.size, k, none⟩ = some (.string (sv L)) ∧ Com L b := by
        have hh : k = 0 ∨ k = 1 ∨ k = 2 ∨ k = 3 := by omega
        rcases hh with rfl | rfl | rfl | rfl
        · exact ⟨L0, hK.out.2.cell 0, C0.out⟩
        · exact ⟨L1, hK.out.2.cell 1, C1.out⟩
        · exact ⟨L2, hK.out.2.cell 2, C2.out⟩
        · exact ⟨L3, hK.out.2.cell 3, C3.out⟩
      have HC := Lib.hid hC
      obtain ⟨n, hn⟩ : ∃ n, L.length = n := ⟨_, rfl⟩
      obtain ⟨l1, l2⟩ := hC.len
      rw [hn] at l1 l2
      have hLz : (sv L).size = n := by rw [sv_size, hn]
      have hLs : ((sv L).size : Int) ≤ 8388608 := by rw [hLz]; omega
      have HW : Hid (rawN (L ++ b) = n ∧ rawN (L.take (n - 1)) = 0 ∧ tagN L = 0) := Lib.hid (by rw [← hn]; exact ⟨hC.whole, hC.part, hC.tag⟩)
      have d1 : sv L ++ sv b = sv (L ++ b) := sv_add _ _
      have d2 := sv_take L (n - 1)
      have q1 : (k : Int) < 4 := by omega
      have q2 : (1 : Int) ≤ (n : Int) := by omega
      have q3 : ((n : Int) - 1).toNat = n - 1 := by omega
      have HLL : Hid ((L ++ b).length ≤ 4294967280 ∧ (L.take (n - 1)).length ≤ 4294967280 ∧ L.length ≤ 4294967280) := Lib.hid (by rw [List.length_append, List.length_take]; have := HB.out; omega)
      obtain ⟨LB, hLB⟩ : ∃ y, L ++ b = y := ⟨_, rfl⟩
      obtain ⟨LT, hLT⟩ : ∃ y, L.take (n - 1) = y := ⟨_, rfl⟩
      rw [hLB] at d1 HW HLL
      rw [hLT] at d2 HW HLL
      clear hLB hLT
      have hcell' : ∀ x : After wr, x.w.cell? ⟨w2.heap.size, k, none⟩ = some (.string (sv L)) := calm_cell hcell
      have hm' : ∀ x : After wr, x.w.cell? ⟨0, 0, none⟩ = some (.int .i64 m) := calm_cell (mod_cell hK.out.1 HM.out)
      have hnn : ((n : Int) != (n : Int)) = false := by simp
      clear hC hcell hn C0 C1 C2 C3 a1 b0 b1 b2 b3 c0 c1 c2 c3 z1 z2 y0 y1 y2 y3 HX
      go_wp2_with (fail)
      refine region_calm (by kernel_rfl) (by kernel_rfl) ?_
      repeat (go_big_quiet_step (fail))
      go_big_quiet_step (first | (go_at_call 16; exact calm_call (raw_n HW.out.1 m HLL.out.1 _ (hm' _))))
      repeat (go_big_quiet_step (fail))
      go_big_quiet_step (first | (go_at_call 16; exact calm_call (raw_n HW.out.2.1 m HLL.out.2.1 _ (hm' _))))
      repeat (go_big_quiet_step (fail))
      go_big_quiet_step (first | (go_at_call 14; exact calm_call (tag_n HW.out.2.2 HLL.out.2.2 _)))
      repeat (go_big_quiet_step (fail))
      refine calm_end (fun w9 hm9 => ?_)
      have HK9 : Hid (Mod (fun _ => False) w w9 ∧ Blk w9 w2.heap.size #[.string (sv L0), .string (sv L1), .string (sv L2), .string (sv L3)] 9) := Lib.hid ⟨hK.out.1.trans hm9 (fun _ h => h.elim), hK.out.2.mod hm9 (fun h => h)⟩
      clear hm9 hK
      go_wp2
      go_roundw
      case rel => exact ⟨k + 1, by go_num, by omega, HK9⟩
      case measure => simp [intOf]; omega
    · go_wp2
      go_ret
      exact ⟨rfl, hK.out.1⟩
end Go.Proofs.YtkmidilaabgooaaDoor
