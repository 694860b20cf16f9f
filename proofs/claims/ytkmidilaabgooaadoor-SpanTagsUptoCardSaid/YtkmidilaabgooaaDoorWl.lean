/-
  What SpanLinks' walk shows.
-/
import Derived.Test.YtkmidilaabgooaaDoorWf
import Derived.Test.YtkmidilaabgooaaDoorWd
namespace Go.Proofs.YtkmidilaabgooaaDoor
open Go.RowKit Mem
set_option linter.unusedVariables false
set_option linter.unusedSimpArgs false

theorem ldB_all (c : UInt8) (h : ldB c = true) : schB c = true ∧ mailB c = true ∧ nameB c = true ∧ badA c = false ∧ c ≠ 62 ∧ c ≠ 45 ∧ c ≠ 46 := by
  have key : ∀ n : Fin 256, ldB (UInt8.ofNat n.val) = true → schB (UInt8.ofNat n.val) = true ∧ mailB (UInt8.ofNat n.val) = true ∧ nameB (UInt8.ofNat n.val) = true ∧ badA (UInt8.ofNat n.val) = false ∧ UInt8.ofNat n.val ≠ 62 ∧ UInt8.ofNat n.val ≠ 45 ∧ UInt8.ofNat n.val ≠ 46 := by decide +kernel
  have := key ⟨c.toNat, c.toNat_lt⟩
  simp only [UInt8.ofNat_toNat] at this
  exact this h
/-- May a byte stand in a link? -/
def okL (c : UInt8) : Bool := !(badA c) && c != 62
theorem tw_app (p : UInt8 → Bool) (a b : Bs) (c : UInt8) (ha : ∀ x ∈ a, p x = true) (hc : p c = false) : (a ++ c :: b).takeWhile p = a ∧ (a ++ c :: b).dropWhile p = c :: b := by
  induction a with
  | nil => simp [List.takeWhile_cons, List.dropWhile_cons, hc]
  | cons x a ih =>
    have hx := ha x (List.mem_cons_self ..)
    have := ih (fun y hy => ha y (List.mem_cons_of_mem _ hy))
    simp [List.takeWhile_cons, List.dropWhile_cons, hx, this]
theorem any_false {p : UInt8 → Bool} {l : Bs} (h : ∀ x ∈ l, p x = false) : l.any p = false := by
  rw [List.any_eq_false]; intro x hx; rw [h x hx]; exact Bool.false_ne_true
/-- A link with a scheme. -/
structure LkC (C : Bs) (k : Nat) : Prop where
  is : ∃ x y, C = 97 :: 98 :: x ++ 58 :: y ∧ (∀ b ∈ x, ldB b = true) ∧ x.length ≤ 30 ∧ ∀ b ∈ y, okL b = true
  len : C.length ≤ 33 + k
theorem LkC.auto {C : Bs} {k : Nat} (h : LkC C k) (b : Bs) : autoF (60 :: C ++ [62] ++ b) = some (C, C) := by
  obtain ⟨x, y, hC, hx, hxl, hy⟩ := h.is
  have hmem : ∀ c ∈ C, badA c = false ∧ c ≠ 62 := by
    intro c hc
    rw [hC] at hc
    simp only [List.cons_append, List.mem_cons, List.mem_append] at hc
    rcases hc with rfl | rfl | hc | rfl | hc
    · decide
    · decide
    · have := ldB_all c (hx c hc); exact ⟨this.2.2.2.1, this.2.2.2.2.1⟩
    · decide
    · have := hy c hc
      unfold okL at this
      rw [Bool.and_eq_true] at this
      exact ⟨by simpa using this.1, by simpa using this.2⟩
  have hcut : cut 62 (C ++ 62 :: b) = some (C, b) := cut_far 62 b C (fun h => (hmem 62 h).2 rfl)
  have e : (60 :: C ++ [62] ++ b : Bs) = 60 :: (C ++ 62 :: b) := by simp
  rw [e, auto_cut hcut]
  refine link_scheme (any_false (fun c hc => (hmem c hc).1)) ?_
  have htw := tw_app schB (97 :: 98 :: x) y 58 (by
    intro c hc
    rcases List.mem_cons.1 hc with rfl | hc
    · decide
    · rcases List.mem_cons.1 hc with rfl | hc
      · decide
      · exact (ldB_all c (hx c hc)).1) (by decide)
  rw [hC]
  show schemeF (97 :: (98 :: x ++ 58 :: y)) = true
  rw [scheme_cons, show (97 :: (98 :: x ++ 58 :: y) : Bs) = 97 :: 98 :: x ++ 58 :: y from rfl, htw.1, htw.2]
  rw [decide_eq_true (show 2 ≤ (97 :: 98 :: x : Bs).length by simp), decide_eq_true (show (97 :: 98 :: x : Bs).length ≤ 32 by simp; omega), pre_cons]
  rfl
theorem mail_auto {x y : Bs} (hx : ∀ b ∈ x, ldB b = true) (hy : ∀ b ∈ y, ldB b = true) (hyl : y.length ≤ 62) (b : Bs) :
    autoF (60 :: (109 :: x ++ [64] ++ 104 :: y ++ [46, 120]) ++ [62] ++ b) = some (mailto ++ (109 :: x ++ [64] ++ 104 :: y ++ [46, 120]), 109 :: x ++ [64] ++ 104 :: y ++ [46, 120]) := by
  have hmem : ∀ c ∈ (109 :: x ++ [64] ++ 104 :: y ++ [46, 120] : Bs), badA c = false ∧ c ≠ 62 := by
    intro c hc
    simp only [List.cons_append, List.mem_cons, List.mem_append, List.not_mem_nil, or_false] at hc
    rcases hc with rfl | (((hc | rfl) | rfl | hc) | rfl | rfl)
    · decide
    · have := ldB_all c (hx c hc); exact ⟨this.2.2.2.1, this.2.2.2.2.1⟩
    · decide
    · decide
    · have := ldB_all c (hy c hc); exact ⟨this.2.2.2.1, this.2.2.2.2.1⟩
    · decide
    · decide
  have hM : (109 :: x ++ [64] ++ 104 :: y ++ [46, 120] : Bs) = 109 :: x ++ 64 :: (104 :: y ++ [46, 120]) := by simp
  have hcut := cut_far 62 b (109 :: x ++ [64] ++ 104 :: y ++ [46, 120]) (fun h => (hmem 62 h).2 rfl)
  have e : (60 :: (109 :: x ++ [64] ++ 104 :: y ++ [46, 120]) ++ [62] ++ b : Bs) = 60 :: ((109 :: x ++ [64] ++ 104 :: y ++ [46, 120]) ++ 62 :: b) := by simp
  rw [e, auto_cut hcut]
  have htw := tw_app schB (109 :: x) (104 :: y ++ [46, 120]) 64 (by
    intro c hc
    rcases List.mem_cons.1 hc with rfl | hc
    · decide
    · exact (ldB_all c (hx c hc)).1) (by decide)
  have hsc : schemeF (109 :: x ++ [64] ++ 104 :: y ++ [46, 120]) = false := by
    rw [hM]
    show schemeF (109 :: (x ++ 64 :: (104 :: y ++ [46, 120]))) = false
    rw [scheme_cons, show (109 :: (x ++ 64 :: (104 :: y ++ [46, 120])) : Bs) = 109 :: x ++ 64 :: (104 :: y ++ [46, 120]) from rfl, htw.2, pre_cons]
    simp
  have htm := tw_app mailB (109 :: x) (104 :: y ++ [46, 120]) 64 (by
    intro c hc
    rcases List.mem_cons.1 hc with rfl | hc
    · decide
    · exact (ldB_all c (hx c hc)).2.1) (by decide)
  have hp : pieces 46 (104 :: y ++ [46, 120]) = [104 :: y, [120]] := by
    have hc : cut 46 (104 :: y ++ 46 :: [120]) = some (104 :: y, [120]) := cut_far 46 [120] (104 :: y) (fun h => by
      rcases List.mem_cons.1 h with h | h
      · cases h
      · exact (ldB_all 46 (hy 46 h)).2.2.2.2.2.2 rfl)
    have h1 := pieces_some hc
    have h2 : pieces 46 [120] = [[120]] := by decide
    rw [h2] at h1
    exact h1
  have hpart : partB (104 :: y) = true := by
    have hall : (104 :: y : Bs).all nameB = true := by
      rw [List.all_eq_true]
      intro c hc
      rcases List.mem_cons.1 hc with rfl | hc
      · decide
      · exact (ldB_all c (hy c hc)).2.2.1
    have hne : ∀ c ∈ (104 :: y : Bs), c ≠ 45 := by
      intro c hc
      rcases List.mem_cons.1 hc with rfl | hc
      · decide
      · exact (ldB_all c (hy c hc)).2.2.2.2.2.1
    obtain ⟨z, hz⟩ : ∃ z, (104 :: y : Bs).getLast? = some z := ⟨_, List.getLast?_eq_some_getLast (by simp)⟩
    have hz45 : z ≠ 45 := hne z (List.mem_of_getLast? hz)
    unfold partB
    rw [hall, hz, decide_eq_true (show 1 ≤ (104 :: y : Bs).length by simp), decide_eq_true (show (104 :: y : Bs).length ≤ 63 by simp; omega), List.head?_cons]
    have h1 : (some (104 : UInt8) != some 45) = true := by decide
    have h2 : (some z != some 45) = true := by simpa using hz45
    rw [h1, h2]
    rfl
  have hmail : mailF (109 :: x ++ [64] ++ 104 :: y ++ [46, 120]) = true := by
    rw [hM]
    rw [mail_is htm.2 (by rw [htm.1]; simp), hp]
    simp only [List.all_cons, List.all_nil, hpart, Bool.true_and]
    decide
  rw [link_mail (any_false (fun c hc => (hmem c hc).1)) hsc, hmail]
  rfl
theorem okL_nat (b : UInt8) : okL b = (decide ((32 : Int) < b.toNat) && !((b.toNat : Int) == 127) && !((b.toNat : Int) == 60) && !((b.toNat : Int) == 62)) := by
  have e : ∀ n : UInt8, (b == n) = ((b.toNat : Int) == (n.toNat : Int)) := fun n => by
    rw [Bool.eq_iff_iff, beq_iff_eq, beq_iff_eq]
    exact ⟨fun h => by rw [h], fun h => UInt8.toNat_inj.1 (by omega)⟩
  have e1 : decide (b ≤ (32 : UInt8)) = !decide ((32 : Int) < b.toNat) := by rw [Bool.eq_iff_iff]; simp [UInt8.le_iff_toNat_le]; omega
  unfold okL badA
  rw [bne, e, e, e, e1]
  show _ = (decide ((32 : Int) < b.toNat) && !((b.toNat : Int) == 127) && !((b.toNat : Int) == 60) && !((b.toNat : Int) == 62))
  have c1 : (((127 : UInt8).toNat : Nat) : Int) = 127 := rfl
  have c2 : (((60 : UInt8).toNat : Nat) : Int) = 60 := rfl
  have c3 : (((62 : UInt8).toNat : Nat) : Int) = 62 := rfl
  rw [c1, c2, c3]
  cases decide ((32 : Int) < b.toNat) <;> cases ((b.toNat : Int) == 127) <;> cases ((b.toNat : Int) == 60) <;> rfl
theorem LkC.push {C : Bs} {k : Nat} (h : LkC C k) {b : UInt8} (hb : okL b = true) : LkC (C ++ [b]) (k + 1) := by
  obtain ⟨x, y, hC, hx, hxl, hy⟩ := h.is
  refine ⟨⟨x, y ++ [b], by rw [hC]; simp, hx, hxl, fun c hc => ?_⟩, by have := h.len; simp; omega⟩
  rcases List.mem_append.1 hc with hc | hc
  · exact hy c hc
  · have : c = b := by simpa using hc
    rw [this]; exact hb
theorem LkC.mono {C : Bs} {k : Nat} (h : LkC C k) : LkC C (k + 1) := ⟨h.is, by have := h.len; omega⟩

set_option maxRecDepth 100000 in
set_option maxHeartbeats 1600000 in
theorem spanLinks_walk (s r n b : Bs) (m : Int) (w : World) (hb : s.length + r.length + n.length + b.length ≤ 1048576) (hm : w.cell? ⟨0, 0, none⟩ = some (.int .i64 m)) :
    Calls Tryd.prog 8 #[.string (sv s), .string (sv r), .string (sv n), .string (sv b)] w fun e w' => e = .returned (.bool true) ∧ Mod (fun _ => False) w w' := by
  have HM := Lib.hid hm
  clear hm
  have HB : Hid (s.length ≤ 1048576 ∧ r.length ≤ 1048576 ∧ n.length ≤ 1048576 ∧ b.length ≤ 1048576) := Lib.hid (by omega)
  have hrz := sv_size r
  obtain ⟨x, hx, hx1, hx2, _⟩ := takeF_is ldB 32 s [97, 98]
  have hxl : x.length ≤ 30 := by
    rcases hx2 with h | rfl
    · simp at h; omega
    · simp
  have HX := Lib.hid hx
  obtain ⟨x1, hy, hy1, hy2, _⟩ := takeF_is ldB 60 n [109]
  have hy3 : x1.length ≤ 60 := by
    rcases hy2 with h | rfl
    · simp at h; omega
    · simp
  have HY := Lib.hid hy
  obtain ⟨x2, hz, hz1, hz2, _⟩ := takeF_is ldB 63 s [104]
  have hz3 : x2.length ≤ 62 := by
    rcases hz2 with h | rfl
    · simp at h; omega
    · simp
  have HZ := Lib.hid hz
  have HL0 : Hid (LkC ([97, 98] ++ x ++ [58]) 0) := Lib.hid ⟨⟨x, [], by simp, hx1, hxl, by simp⟩, by simp; omega⟩
  have HMA := Lib.hid (mail_auto hy1 hz1 hz3 b)
  have a1 : sv ([97, 98] ++ x) ++ (⟨#[58]⟩ : ByteArray) = sv ([97, 98] ++ x ++ [58]) := sv_add _ [58]
  have za : ((sv ([97, 98] ++ x)).size : Int) ≤ 8388608 := by rw [sv_size]; simp; omega
  obtain ⟨S, hS⟩ : ∃ S, ([97, 98] ++ x : Bs) = S := ⟨_, rfl⟩
  obtain ⟨S1, hS1⟩ : ∃ S1, ([97, 98] ++ x ++ [58] : Bs) = S1 := ⟨_, rfl⟩
  rw [hS1] at a1 HL0
  rw [hS] at a1 za HX
  have HMB : Hid (x1.length ≤ 60 ∧ x2.length ≤ 62) := Lib.hid ⟨hy3, hz3⟩
  clear hx hx1 hx2 hxl hy hy1 hy2 hy3 hz hz1 hz2 hz3 hS hS1
  go_enter Tryd.func8, Tryd.ntmps8
  go_wp2_with (fail)
  refine (shown_any m _ HM.out).mono ?_
  rintro e w1 ⟨rfl, h1⟩
  have H1 := Lib.hid h1
  clear h1
  go_wp2_with (fail)
  refine (word_any [97, 98] s 32 _ (by decide) HB.out.1 (by decide)).mono ?_
  rintro e w2 ⟨rfl, h2⟩
  rw [HX.out]
  have H2 := Lib.hid (H1.out.trans h2 (fun _ h => h.elim))
  clear h2 H1
  go_wp2
  go_loop [10, 11] (fun v i => ∃ (k : Nat) (C : Bs), v = .string (sv C) ∧ i = .int .i64 k ∧ k ≤ r.length ∧ k ≤ 300 ∧ C.length ≤ 333 ∧ Hid (LkC C k)) (fun _ i => r.length - (intOf i).toNat)
  case atStart => exact ⟨0, S1, rfl, rfl, by omega, by omega, by have := HL0.out.len; omega, HL0⟩
  case round =>
    obtain ⟨k, C, rfl, rfl, hk, hk3, hCl, hC⟩ := hrel
    by_cases hlt : k < r.length ∧ k < 300
    · obtain ⟨h1, h2⟩ := hlt
      have q1 : (k : Int) < (r.length : Int) := by omega
      have q2 : (k : Int) < 300 := by omega
      obtain ⟨d, hd⟩ : ∃ d, r[k] = d := ⟨_, rfl⟩
      have hget : ∀ h, (sv r)[k]'h = d := fun _ => hd
      have hok := Lib.hid (okL_nat d)
      have HN : Hid (LkC C (k + 1)) := Lib.hid hC.out.mono
      by_cases c1 : (32 : Int) < d.toNat
      · rcases c2 : ((d.toNat : Int) == 127) with _ | _
        · rcases c3 : ((d.toNat : Int) == 60) with _ | _
          · rcases c4 : ((d.toNat : Int) == 62) with _ | _
            · have HP : Hid (LkC (C ++ [d]) (k + 1)) := Lib.hid (hC.out.push (by rw [hok.out, decide_eq_true c1, c2, c3, c4]; rfl))
              have e1 : (sv r).extract k (k + 1) = sv [d] := by
                rw [sv_ext, List.take_add_one, List.drop_append_of_le_length (by simp; omega), List.getElem?_eq_getElem h1]
                rw [List.drop_of_length_le (by rw [List.length_take]; exact Nat.min_le_left _ _)]
                show sv ([] ++ [r[k]]) = _
                rw [hd]; rfl
              have e2 : sv C ++ sv [d] = sv (C ++ [d]) := sv_add _ _
              have z1 : ((sv C).size : Int) ≤ 8388608 := by rw [sv_size]; omega
              have z2 : ((sv [d]).size : Int) ≤ 8388608 := by rw [sv_size]; simp
              have q3 : ((k : Int) + 1) ≤ (r.length : Int) := by omega
              have q4 : ((k : Int) + 1).toNat = k + 1 := by omega
              have n2 : ((d.toNat : Int) != 127) = true := by rw [bne, c2]; rfl
              have n3 : ((d.toNat : Int) != 60) = true := by rw [bne, c3]; rfl
              have n4 : ((d.toNat : Int) != 62) = true := by rw [bne, c4]; rfl
              clear c2 c3 c4 hok hd
              go_wp2
              go_round
              case rel => exact ⟨k + 1, C ++ [d], rfl, by go_num, by omega, by omega, by have := HP.out.len; omega, HP⟩
              case measure => simp [intOf]; omega
            · have n2 : ((d.toNat : Int) != 127) = true := by rw [bne, c2]; rfl
              have n3 : ((d.toNat : Int) != 60) = true := by rw [bne, c3]; rfl
              have n4 : ((d.toNat : Int) != 62) = false := by rw [bne, c4]; rfl
              clear c2 c3 c4 hok hd
              go_wp2
              go_round
              case rel => exact ⟨k + 1, C, rfl, by go_num, by omega, by omega, hCl, HN⟩
              case measure => simp [intOf]; omega
          · have n2 : ((d.toNat : Int) != 127) = true := by rw [bne, c2]; rfl
            have n3 : ((d.toNat : Int) != 60) = false := by rw [bne, c3]; rfl
            clear c2 c3 hok hd
            go_wp2
            go_round
            case rel => exact ⟨k + 1, C, rfl, by go_num, by omega, by omega, hCl, HN⟩
            case measure => simp [intOf]; omega
        · have n2 : ((d.toNat : Int) != 127) = false := by rw [bne, c2]; rfl
          clear c2 hok hd
          go_wp2
          go_round
          case rel => exact ⟨k + 1, C, rfl, by go_num, by omega, by omega, hCl, HN⟩
          case measure => simp [intOf]; omega
      · clear hok hd
        go_wp2
        go_round
        case rel => exact ⟨k + 1, C, rfl, by go_num, by omega, by omega, hCl, HN⟩
        case measure => simp [intOf]; omega
    · have hx : k = r.length ∨ (k < r.length ∧ k = 300) := by omega
      have HAC := Lib.hid (by rw [hC.out.auto b]; rfl : autoV (autoF (60 :: C ++ [62] ++ b)) = .tuple #[.string (sv C), .string (sv C), .int .i64 ((C.length : Int) + 2)])
      have b1 : (⟨#[60]⟩ : ByteArray) ++ sv C = sv (60 :: C) := sv_add [60] C
      have b2 : sv (60 :: C) ++ (⟨#[62]⟩ : ByteArray) = sv (60 :: C ++ [62]) := sv_add _ [62]
      have b3 : sv (60 :: C ++ [62]) ++ sv b = sv (60 :: C ++ [62] ++ b) := sv_add _ _
      have y1 : ((sv C).size : Int) ≤ 8388608 := by rw [sv_size]; omega
      have y2 : ((sv (60 :: C)).size : Int) ≤ 8388608 := by rw [sv_size]; simp; omega
      have y3 : ((sv (60 :: C ++ [62])).size : Int) ≤ 8388608 := by rw [sv_size]; simp; omega
      have y4 : ((sv b).size : Int) ≤ 8388608 := by rw [sv_size]; have := HB.out; omega
      have hCt := sv_toList C
      have hCz := sv_size C
      have LA : Hid ((60 :: C ++ [62] ++ b).length ≤ 4194304) := Lib.hid (by simp; have := HB.out; omega)
      obtain ⟨D1, hD1⟩ : ∃ D, (60 :: C : Bs) = D := ⟨_, rfl⟩
      obtain ⟨D2, hD2⟩ : ∃ D, (60 :: C ++ [62] : Bs) = D := ⟨_, rfl⟩
      obtain ⟨D3, hD3⟩ : ∃ D, (60 :: C ++ [62] ++ b : Bs) = D := ⟨_, rfl⟩
      rw [hD3] at b3 HAC LA
      rw [hD2] at b2 b3 y3
      rw [hD1] at b1 b2 y2
      clear hD1 hD2 hD3
      obtain ⟨M, hM⟩ : ∃ M, (109 :: x1 ++ [64] ++ 104 :: x2 ++ [46, 120] : Bs) = M := ⟨_, rfl⟩
      have hMl : M.length = x1.length + x2.length + 5 := by rw [← hM]; simp; omega
      have c1 : sv ([109] ++ x1) ++ (⟨#[64]⟩ : ByteArray) = sv (109 :: x1 ++ [64]) := sv_add _ [64]
      have c2 : sv (109 :: x1 ++ [64]) ++ sv ([104] ++ x2) = sv (109 :: x1 ++ [64] ++ 104 :: x2) := sv_add _ _
      have c3 : sv (109 :: x1 ++ [64] ++ 104 :: x2) ++ (⟨#[46, 120]⟩ : ByteArray) = sv M := by rw [← hM]; exact sv_add _ [46, 120]
      have w1' : ((sv ([109] ++ x1)).size : Int) ≤ 8388608 := by rw [sv_size]; simp; have := HMB.out; omega
      have w2' : ((sv (109 :: x1 ++ [64])).size : Int) ≤ 8388608 := by rw [sv_size]; simp; have := HMB.out; omega
      have w3' : ((sv ([104] ++ x2)).size : Int) ≤ 8388608 := by rw [sv_size]; simp; have := HMB.out; omega
      have w4' : ((sv (109 :: x1 ++ [64] ++ 104 :: x2)).size : Int) ≤ 8388608 := by rw [sv_size]; simp; have := HMB.out; omega
      have hM2 : M.length ≤ 200 := by have := HMB.out; omega
      have d1 : (⟨#[60]⟩ : ByteArray) ++ sv M = sv (60 :: M) := sv_add [60] M
      have d2 : sv (60 :: M) ++ (⟨#[62]⟩ : ByteArray) = sv (60 :: M ++ [62]) := sv_add _ [62]
      have d3 : sv (60 :: M ++ [62]) ++ sv b = sv (60 :: M ++ [62] ++ b) := sv_add _ _
      have v1 : ((sv M).size : Int) ≤ 8388608 := by rw [sv_size]; omega
      have v2 : ((sv (60 :: M)).size : Int) ≤ 8388608 := by rw [sv_size]; simp; omega
      have v3 : ((sv (60 :: M ++ [62])).size : Int) ≤ 8388608 := by rw [sv_size]; simp; omega
      have HAM := Lib.hid (by rw [← hM, HMA.out]; rfl : autoV (autoF (60 :: M ++ [62] ++ b)) = .tuple #[.string (sv (mailto ++ M)), .string (sv M), .int .i64 ((M.length : Int) + 2)])
      have LM : Hid ((60 :: M ++ [62] ++ b).length ≤ 4194304) := Lib.hid (by simp; have := HB.out; omega)
      have HADD : Hid ((⟨#[109, 97, 105, 108, 116, 111, 58]⟩ : ByteArray) ++ sv M = sv (mailto ++ M) ∧ (((⟨#[109, 97, 105, 108, 116, 111, 58]⟩ : ByteArray).size : Nat) : Int) ≤ 8388608) := Lib.hid ⟨sv_add mailto M, by show ((7 : Nat) : Int) ≤ 8388608; omega⟩
      have hMt := sv_toList M
      have hMz := sv_size M
      have hMm := sv_toList (mailto ++ M)
      obtain ⟨E1, hE1⟩ : ∃ D, (60 :: M : Bs) = D := ⟨_, rfl⟩
      obtain ⟨E2, hE2⟩ : ∃ D, (60 :: M ++ [62] : Bs) = D := ⟨_, rfl⟩
      obtain ⟨E3, hE3⟩ : ∃ D, (60 :: M ++ [62] ++ b : Bs) = D := ⟨_, rfl⟩
      rw [hE3] at d3 HAM LM
      rw [hE2] at d2 d3 v3
      rw [hE1] at d1 d2 v2
      obtain ⟨F1, hF1⟩ : ∃ D, ([109] ++ x1 : Bs) = D := ⟨_, rfl⟩
      obtain ⟨F2, hF2⟩ : ∃ D, (109 :: x1 ++ [64] : Bs) = D := ⟨_, rfl⟩
      obtain ⟨F3, hF3⟩ : ∃ D, ([104] ++ x2 : Bs) = D := ⟨_, rfl⟩
      obtain ⟨F4, hF4⟩ : ∃ D, (109 :: x1 ++ [64] ++ 104 :: x2 : Bs) = D := ⟨_, rfl⟩
      have HW1 : Hid (takeF ldB 60 [109] n = F1) := Lib.hid (HY.out.trans hF1)
      have HW2 : Hid (takeF ldB 63 [104] s = F3) := Lib.hid (HZ.out.trans hF3)
      rw [hF4] at c2 c3 w4'
      rw [hF2] at c1 c2 w2'
      have c1' : sv F1 ++ (⟨#[64]⟩ : ByteArray) = sv F2 := by rw [← hF1]; exact c1
      have c2' : sv F2 ++ sv F3 = sv F4 := by rw [← hF3]; exact c2
      have w1'' : ((sv F1).size : Int) ≤ 8388608 := by rw [← hF1]; exact w1'
      have w3'' : ((sv F3).size : Int) ≤ 8388608 := by rw [← hF3]; exact w3'
      clear c1 c2 w1' w3' hE1 hE2 hE3 hF1 hF2 hF3 hF4 hM hMl HMA HY HZ HX HL0 a1 za hC hlt
      rcases hx with hx | ⟨hx1, hx2⟩
      · have q1 : ¬ ((k : Int) < (r.length : Int)) := by omega
        go_wp2_with (fail)
        refine (auto_v HAC.out m LA.out _ (mod_cell H2.out HM.out)).mono ?_
        rintro e w3 ⟨rfl, h3⟩
        have H3 := Lib.hid (H2.out.trans h3 (fun _ h => h.elim))
        clear h3
        go_wp2_with (fail)
        refine (word_any [109] n 60 _ (by decide) HB.out.2.2.1 (by decide)).mono ?_
        rintro e w4 ⟨rfl, h4⟩
        rw [HW1.out]
        have H4 := Lib.hid (H3.out.trans h4 (fun _ h => h.elim))
        clear h4
        go_wp2_with (fail)
        refine (word_any [104] s 63 _ (by decide) HB.out.1 (by decide)).mono ?_
        rintro e w5 ⟨rfl, h5⟩
        rw [HW2.out]
        have H5 := Lib.hid (H4.out.trans h5 (fun _ h => h.elim))
        clear h5
        go_wp2_with (fail)
        refine (auto_v HAM.out m LM.out _ (mod_cell H5.out HM.out)).mono ?_
        rintro e w6 ⟨rfl, h6⟩
        have H6 := Lib.hid (H5.out.trans h6 (fun _ h => h.elim))
        clear h6
        obtain ⟨hadd, hs7⟩ := HADD.out
        go_wp2
        go_ret
        exact ⟨rfl, H6.out⟩
      · have q1 : (k : Int) < (r.length : Int) := by omega
        have q2 : ¬ ((k : Int) < 300) := by omega
        go_wp2_with (fail)
        refine (auto_v HAC.out m LA.out _ (mod_cell H2.out HM.out)).mono ?_
        rintro e w3 ⟨rfl, h3⟩
        have H3 := Lib.hid (H2.out.trans h3 (fun _ h => h.elim))
        clear h3
        go_wp2_with (fail)
        refine (word_any [109] n 60 _ (by decide) HB.out.2.2.1 (by decide)).mono ?_
        rintro e w4 ⟨rfl, h4⟩
        rw [HW1.out]
        have H4 := Lib.hid (H3.out.trans h4 (fun _ h => h.elim))
        clear h4
        go_wp2_with (fail)
        refine (word_any [104] s 63 _ (by decide) HB.out.1 (by decide)).mono ?_
        rintro e w5 ⟨rfl, h5⟩
        rw [HW2.out]
        have H5 := Lib.hid (H4.out.trans h5 (fun _ h => h.elim))
        clear h5
        go_wp2_with (fail)
        refine (auto_v HAM.out m LM.out _ (mod_cell H5.out HM.out)).mono ?_
        rintro e w6 ⟨rfl, h6⟩
        have H6 := Lib.hid (H5.out.trans h6 (fun _ h => h.elim))
        clear h6
        obtain ⟨hadd, hs7⟩ := HADD.out
        go_wp2
        go_ret
        exact ⟨rfl, H6.out⟩
end Go.Proofs.YtkmidilaabgooaaDoor
