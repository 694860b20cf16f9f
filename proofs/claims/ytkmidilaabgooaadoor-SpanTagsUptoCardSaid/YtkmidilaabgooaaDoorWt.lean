/-
  What SpanTags' walk shows.
-/
import Derived.Test.YtkmidilaabgooaaDoorWl
import Derived.Test.YtkmidilaabgooaaDoorWe
import Derived.BigRegion
namespace Go.Proofs.YtkmidilaabgooaaDoor
open Go.RowKit Mem
set_option linter.unusedVariables false
set_option linter.unusedSimpArgs false

theorem dw_app (p : UInt8 → Bool) (a b : Bs) (ha : ∀ x ∈ a, p x = true) : (a ++ b).dropWhile p = b.dropWhile p := by
  induction a with
  | nil => rfl
  | cons x a ih =>
    rw [List.cons_append, List.dropWhile_cons, if_pos (ha x (List.mem_cons_self ..)), ih (fun y hy => ha y (List.mem_cons_of_mem _ hy))]
theorem ldB_attr (c : UInt8) (h : ldB c = true) : attrB c = true := by
  have h2 := (ldB_all c h).2.2.1
  unfold nameB isB at h2
  unfold attrB isB
  rw [Bool.or_eq_true] at h2 ⊢
  rcases h2 with h2 | h2
  · exact .inl h2
  · right
    have : c = 45 := by simpa using h2
    rw [this]; rfl
theorem name_run {x b : Bs} (hx : ∀ c ∈ x, ldB c = true) (hb : b.dropWhile nameB = b) : nameF (97 :: x ++ b) = some b := by
  show (if isB true false [] 97 then some ((97 :: x ++ b).dropWhile nameB) else none) = _
  rw [if_pos (by decide), dw_app nameB (97 :: x) b (by
    intro c hc
    rcases List.mem_cons.1 hc with rfl | hc
    · decide
    · exact (ldB_all c (hx c hc)).2.2.1), hb]
/-- What stands ahead of a tag's end. -/
def Ends (e : Bs) : Prop := e = [] ∨ e = [32] ∨ e = [47] ∨ e = [32, 47]
theorem Ends.attrs {e : Bs} (h : Ends e) : attrs e = some e ∧ slash (gapF e) = [] := by
  rcases h with rfl | rfl | rfl | rfl
  · exact ⟨attrs_stop0 (by decide), by decide⟩
  · exact ⟨attrs_stop0 (by decide), by decide⟩
  · exact ⟨attrs_stop (g := []) (c := 47) (by decide) (.inl (by decide)), by decide⟩
  · exact ⟨attrs_stop (g := []) (c := 47) (by decide) (.inr (by decide)), by decide⟩
theorem tag_open {x y sep v e : Bs} (hx : ∀ c ∈ x, ldB c = true) (hy : ∀ c ∈ y, ldB c = true) (hsep : sep = [32] ∨ sep = [10] ∨ sep = [32, 9, 32]) (he : Ends e) (hv : valF (v ++ e) = some e) (hd : (v ++ e).dropWhile attrB = v ++ e) :
    tagB (60 :: 97 :: x ++ sep ++ (98 :: y) ++ v ++ e) = some [] := by
  have hn : nameF (97 :: x ++ (sep ++ (98 :: y ++ (v ++ e)))) = some (sep ++ (98 :: y ++ (v ++ e))) := by
    refine name_run hx ?_
    rcases hsep with rfl | rfl | rfl <;> rfl
  have hg : gapF (sep ++ (98 :: y ++ (v ++ e))) = 98 :: (y ++ (v ++ e)) := by
    rcases hsep with rfl | rfl | rfl <;> rfl
  have hgn : gapN (sep ++ (98 :: y ++ (v ++ e))) ≠ 0 := by
    unfold gapN
    rw [hg]
    rcases hsep with rfl | rfl | rfl <;> simp <;> omega
  have hdw : (98 :: (y ++ (v ++ e))).dropWhile attrB = v ++ e := by
    have := dw_app attrB (98 :: y) (v ++ e) (by
      intro c hc
      rcases List.mem_cons.1 hc with rfl | hc
      · decide
      · exact ldB_attr c (hy c hc))
    rw [hd] at this
    exact this
  have ha := (attrs_go hg hgn (by decide) (by rw [hdw]; exact hv)).1
  have e1 : (60 :: 97 :: x ++ sep ++ (98 :: y) ++ v ++ e : Bs) = 60 :: 97 :: (x ++ (sep ++ (98 :: y ++ (v ++ e)))) := by simp
  rw [e1]
  show (match nameF (97 :: x ++ (sep ++ (98 :: y ++ (v ++ e)))) with
        | none => none
        | some r => (attrs r).map fun r => slash (gapF r)) = _
  rw [hn]
  dsimp only
  rw [ha, he.attrs.1]
  show some (slash (gapF e)) = _
  rw [he.attrs.2]
theorem tag_bare {x : Bs} (hx : ∀ c ∈ x, ldB c = true) : tagB (60 :: 97 :: x) = some [] := by
  have hn := name_run (b := []) hx rfl
  rw [List.append_nil] at hn
  show (match nameF (97 :: x) with
        | none => none
        | some r => (attrs r).map fun r => slash (gapF r)) = _
  rw [hn]
  dsimp only
  rw [attrs_stop0 (by decide)]
  rfl
theorem tag_shut {x g : Bs} (hx : ∀ c ∈ x, ldB c = true) (hg : g = [] ∨ g = [32] ∨ g = [10]) : tagB (60 :: 47 :: 97 :: x ++ g) = some [] := by
  have hn : nameF (97 :: x ++ g) = some g := by
    refine name_run hx ?_
    rcases hg with rfl | rfl | rfl <;> rfl
  show (nameF (97 :: x ++ g)).map gapF = _
  rw [hn]
  rcases hg with rfl | rfl | rfl <;> rfl
/-- A value that may be. -/
theorem val_empty {e : Bs} (he : Ends e) : valF ([] ++ e) = some e ∧ (([] : Bs) ++ e).dropWhile attrB = [] ++ e := by
  rcases he with rfl | rfl | rfl | rfl <;> exact ⟨by decide, by decide⟩
theorem val_one {w e : Bs} (hw : 39 ∉ w) : valF ([61, 39] ++ w ++ [39] ++ e) = some e ∧ ([61, 39] ++ w ++ [39] ++ e).dropWhile attrB = [61, 39] ++ w ++ [39] ++ e := by
  have hc : cut 39 (w ++ 39 :: e) = some (w, e) := cut_far 39 e w hw
  refine ⟨?_, rfl⟩
  have e1 : ([61, 39] ++ w ++ [39] ++ e : Bs) = 61 :: 39 :: (w ++ 39 :: e) := by simp
  rw [e1, val_yes (r := 39 :: (w ++ 39 :: e)) rfl, show gapF (39 :: (w ++ 39 :: e)) = 39 :: (w ++ 39 :: e) from rfl, valR_q (.inl rfl), hc]
  rfl
theorem val_two {w e : Bs} (hw : 34 ∉ w) : valF ([32, 61, 9, 34] ++ w ++ [34] ++ e) = some e ∧ ([32, 61, 9, 34] ++ w ++ [34] ++ e).dropWhile attrB = [32, 61, 9, 34] ++ w ++ [34] ++ e := by
  have hc : cut 34 (w ++ 34 :: e) = some (w, e) := cut_far 34 e w hw
  refine ⟨?_, rfl⟩
  have e1 : ([32, 61, 9, 34] ++ w ++ [34] ++ e : Bs) = 32 :: 61 :: 9 :: 34 :: (w ++ 34 :: e) := by simp
  rw [e1, val_yes (r := 9 :: 34 :: (w ++ 34 :: e)) rfl, show gapF (9 :: 34 :: (w ++ 34 :: e)) = 34 :: (w ++ 34 :: e) from rfl, valR_q (.inr rfl), hc]
  rfl
theorem val_bare {e : Bs} (he : Ends e) (h47 : e ≠ [47]) : valF ([61, 118] ++ e) = some e ∧ ([61, 118] ++ e).dropWhile attrB = [61, 118] ++ e := by
  rcases he with rfl | rfl | rfl | rfl
  · exact ⟨by decide, by decide⟩
  · exact ⟨by decide, by decide⟩
  · exact absurd rfl h47
  · exact ⟨by decide, by decide⟩
theorem tag_len {p : Bs} (h : tagB p = some []) (b : Bs) : tagN (p ++ [62] ++ b) = (p ++ [62]).length ∧ rawN (p ++ [62] ++ b) = (p ++ [62]).length := by
  have e : (p ++ [62] ++ b : Bs) = p ++ 62 :: b := by simp
  have h1 : tagN (p ++ [62] ++ b) = (p ++ [62]).length := by
    rw [e]
    unfold tagN
    rw [tag_of h]
    simp [took]
    omega
  exact ⟨h1, by rw [rawN_tag (by rw [h1]; simp), h1]⟩
/-- What the value's text does. -/
def VP (z : Int) (V : Bs) : Prop := V.length ≤ 600 ∧ ∀ e, Ends e → (z % 4 = 3 → e ≠ [47]) → valF (V ++ e) = some e ∧ (V ++ e).dropWhile attrB = V ++ e
/-- A tag's text. -/
def TagT (S : Bs) : Prop := S.length ≤ 900 ∧ ∃ p, S = p ++ [62] ∧ tagB p = some []

set_option maxRecDepth 100000 in
set_option maxHeartbeats 2000000 in
theorem spanTags_walk (n a v : Bs) (z : Int) (b : Bs) (m : Int) (w : World) (hz : (Lit.int .i64 z).wf = true) (hb : n.length + a.length + v.length + b.length ≤ 1048576) (hm : w.cell? ⟨0, 0, none⟩ = some (.int .i64 m)) :
    Calls Tryd.prog 6 #[.string (sv n), .string (sv a), .string (sv v), .int .i64 z, .string (sv b)] w fun e w' => e = .returned (.bool true) ∧ Mod (fun _ => False) w w' := by
  have HM := Lib.hid hm
  clear hm
  have hz' : -9223372036854775808 ≤ z ∧ z ≤ 9223372036854775807 := by simpa [Lit.wf, IntKind.min, IntKind.max, IntKind.signed, IntKind.bits] using hz
  obtain ⟨hz1, hz2⟩ := hz'
  clear hz
  have HB : Hid (n.length ≤ 1048576 ∧ a.length ≤ 1048576 ∧ v.length ≤ 1048576 ∧ b.length ≤ 1048576) := Lib.hid (by omega)
  obtain ⟨x, hx, hx1, hx2, _⟩ := takeF_is ldB 50 n [97]
  have hxl : x.length ≤ 50 := by
    rcases hx2 with h | rfl
    · simp at h; omega
    · simp
  obtain ⟨y, hy, hy1, hy2, _⟩ := takeF_is ldB 50 a [98]
  have hyl : y.length ≤ 50 := by
    rcases hy2 with h | rfl
    · simp at h; omega
    · simp
  obtain ⟨u1, hu, hu1, hu2, _⟩ := takeF_is (notB [39]) 500 v []
  have hul : u1.length ≤ 500 := by
    rcases hu2 with h | rfl
    · simpa using h
    · simp
  obtain ⟨u2, ht, ht1, ht2, _⟩ := takeF_is (notB [34]) 500 v []
  have htl : u2.length ≤ 500 := by
    rcases ht2 with h | rfl
    · simpa using h
    · simp
  rw [List.nil_append] at hu ht
  have n39 : 39 ∉ u1 := fun h => by have := hu1 39 h; cases this
  have n34 : 34 ∉ u2 := fun h => by have := ht1 34 h; cases this
  obtain ⟨N, hN⟩ : ∃ N, [97] ++ x = N := ⟨_, rfl⟩
  obtain ⟨A, hA⟩ : ∃ A, [98] ++ y = A := ⟨_, rfl⟩
  rw [hN] at hx
  rw [hA] at hy
  have HX : Hid (takeF ldB 50 [97] n = N ∧ takeF ldB 50 [98] a = A ∧ takeF (notB [39]) 500 [] v = u1 ∧ takeF (notB [34]) 500 [] v = u2) := Lib.hid ⟨hx, hy, hu, ht⟩
  have HNA : Hid ((∀ sep V e : Bs, (sep = [32] ∨ sep = [10] ∨ sep = [32, 9, 32]) → Ends e → valF (V ++ e) = some e → (V ++ e).dropWhile attrB = V ++ e → tagB (60 :: N ++ sep ++ A ++ V ++ e) = some []) ∧ tagB (60 :: N) = some [] ∧ (∀ g, g = [] ∨ g = [32] ∨ g = [10] → tagB (60 :: 47 :: N ++ g) = some []) ∧ N.length ≤ 51 ∧ A.length ≤ 51) := Lib.hid (by
    subst hN hA
    refine ⟨fun sep V e h1 h2 h3 h4 => tag_open hx1 hy1 h1 h2 h3 h4, tag_bare hx1, fun g hg => tag_shut hx1 hg, by simp; omega, by simp; omega⟩)
  have HU : Hid (39 ∉ u1 ∧ 34 ∉ u2 ∧ u1.length ≤ 500 ∧ u2.length ≤ 500) := Lib.hid ⟨n39, n34, hul, htl⟩
  clear hx hx1 hx2 hxl hy hy1 hy2 hyl hu hu1 hu2 hul ht ht1 ht2 htl n39 n34 hN hA
  go_enter Tryd.func6, Tryd.ntmps6
  go_wp2_with (fail)
  refine (shown_any m _ HM.out).mono ?_
  rintro e w1 ⟨rfl, h1⟩
  have H1 := Lib.hid h1
  clear h1
  go_wp2_with (fail)
  refine (word_any [97] n 50 _ (by decide) HB.out.1 (by decide)).mono ?_
  rintro e w2 ⟨rfl, h2⟩
  rw [HX.out.1]
  have H2 := Lib.hid (H1.out.trans h2 (fun _ h => h.elim))
  clear h2 H1
  go_wp2_with (fail)
  refine (word_any [98] a 50 _ (by decide) HB.out.2.1 (by decide)).mono ?_
  rintro e w3 ⟨rfl, h3⟩
  rw [HX.out.2.1]
  have H3 := Lib.hid (H2.out.trans h3 (fun _ h => h.elim))
  clear h3 H2
  go_upto_if 23 with (fail)
  go_cut [3] (fun v wy => ∃ z : Int, v = .int .i64 z ∧ 0 ≤ z ∧ z ≤ 9223372036854775807 ∧ wy = w3)
  case first =>
    by_cases hneg : z < 0
    · have e1 : IntKind.i64.wrap (z + 1) = z + 1 := by rw [IntKind.wrap_i64]; omega
      have e2 : IntKind.i64.wrap (-(z + 1)) = -(z + 1) := by rw [IntKind.wrap_i64]; omega
      go_wp2
      go_meet
      case rel => exact ⟨_, rfl, by omega, by omega, rfl⟩
    · go_wp2
      go_meet
      case rel => exact ⟨_, rfl, by omega, by omega, rfl⟩
  case rest =>
    obtain ⟨z, rfl, hz0, hz1, rfl⟩ := hcut
    have hr4 : z.tmod 4 = z % 4 := Int.tmod_eq_emod_of_nonneg hz0
    go_upto_region 6 with (fail)
    go_cut [14] (fun t wy => ∃ V, t = .string (sv V) ∧ Hid (VP z V) ∧ Hid (Mod (fun _ => False) w wy))
    case first =>
      have a1 : (⟨#[61, 39]⟩ : ByteArray) ++ sv u1 = sv ([61, 39] ++ u1) := sv_add [61, 39] u1
      have a2 : sv ([61, 39] ++ u1) ++ (⟨#[39]⟩ : ByteArray) = sv ([61, 39] ++ u1 ++ [39]) := sv_add _ [39]
      have b1 : (⟨#[32, 61, 9, 34]⟩ : ByteArray) ++ sv u2 = sv ([32, 61, 9, 34] ++ u2) := sv_add [32, 61, 9, 34] u2
      have b2 : sv ([32, 61, 9, 34] ++ u2) ++ (⟨#[34]⟩ : ByteArray) = sv ([32, 61, 9, 34] ++ u2 ++ [34]) := sv_add _ [34]
      have y1 : ((sv u1).size : Int) ≤ 8388608 := by rw [sv_size]; have := HU.out; omega
      have y2 : ((sv u2).size : Int) ≤ 8388608 := by rw [sv_size]; have := HU.out; omega
      have y3 : ((sv ([61, 39] ++ u1)).size : Int) ≤ 8388608 := by rw [sv_size]; have := HU.out; simp; omega
      have y4 : ((sv ([32, 61, 9, 34] ++ u2)).size : Int) ≤ 8388608 := by rw [sv_size]; have := HU.out; simp; omega
      have P0 : Hid (z % 4 = 0 → VP z []) := Lib.hid (fun _ => ⟨by decide, fun e he _ => val_empty he⟩)
      have P1 : Hid (VP z ([61, 39] ++ u1 ++ [39])) := Lib.hid ⟨by have := HU.out; simp; omega, fun e he _ => val_one HU.out.1⟩
      have P2 : Hid (VP z ([32, 61, 9, 34] ++ u2 ++ [34])) := Lib.hid ⟨by have := HU.out; simp; omega, fun e he _ => val_two HU.out.2.1⟩
      have P3 : Hid (z % 4 = 3 → VP z [61, 118]) := Lib.hid (fun h3 => ⟨by decide, fun e he h => val_bare he (h h3)⟩)
      obtain ⟨U1, hU1⟩ : ∃ U, ([61, 39] ++ u1 ++ [39] : Bs) = U := ⟨_, rfl⟩
      obtain ⟨U2, hU2⟩ : ∃ U, ([32, 61, 9, 34] ++ u2 ++ [34] : Bs) = U := ⟨_, rfl⟩
      rw [hU1] at a2 P1
      rw [hU2] at b2 P2
      obtain ⟨U3, hU3⟩ : ∃ U, ([61, 39] ++ u1 : Bs) = U := ⟨_, rfl⟩
      obtain ⟨U4, hU4⟩ : ∃ U, ([32, 61, 9, 34] ++ u2 : Bs) = U := ⟨_, rfl⟩
      rw [hU3] at a1 a2 y3
      rw [hU4] at b1 b2 y4
      clear hU1 hU2 hU3 hU4
      go_wp2_with (fail)
      refine (without_any v [39] 500 _ (by decide) HB.out.2.2.1 (by decide)).mono ?_
      rintro e w4 ⟨rfl, h4⟩
      rw [HX.out.2.2.1]
      have H4 := Lib.hid (H3.out.trans h4 (fun _ h => h.elim))
      clear h4
      go_wp2_with (fail)
      refine (without_any v [34] 500 _ (by decide) HB.out.2.2.1 (by decide)).mono ?_
      rintro e w5 ⟨rfl, h5⟩
      rw [HX.out.2.2.2]
      have H5 := Lib.hid (H4.out.trans h5 (fun _ h => h.elim))
      clear h5
      have H6 : ∀ cs, Hid (Mod (fun _ => False) w (w5.alloc (.cells cs 9))) := fun cs => Lib.hid (H5.out.alloc _)
      have hx : z % 4 = 0 ∨ z % 4 = 1 ∨ z % 4 = 2 ∨ z % 4 = 3 := by omega
      rcases hx with h | h | h | h
      · have Q0 := Lib.hid (P0.out h)
        rw [h] at hr4
        clear h P0 P3
        go_wp2
        go_meet
        case rel => exact ⟨[], rfl, Q0, H6 _⟩
      · rw [h] at hr4
        clear h P0 P3
        go_wp2
        go_meet
        case rel => exact ⟨U1, rfl, P1, H6 _⟩
      · rw [h] at hr4
        clear h P0 P3
        go_wp2
        go_meet
        case rel => exact ⟨U2, rfl, P2, H6 _⟩
      · have Q3 := Lib.hid (P3.out h)
        rw [h] at hr4
        clear h P0 P3
        go_wp2
        go_meet
        case rel => exact ⟨[61, 118], rfl, Q3, H6 _⟩
    case rest =>
      obtain ⟨V, rfl, hV, hMV⟩ := hcut
      go_upto_region 7 with (fail)
      go_cut [15] (fun t wy => ∃ S, t = .string (sv S) ∧ S.length ≤ 900 ∧ Hid (¬ (z % 4 = 3 ∧ z / 12 % 4 = 2) → TagT S) ∧ Hid (Mod (fun _ => False) w wy))
      case first =>
        have hd4 : z.tdiv 4 = z / 4 := Int.tdiv_eq_ediv_of_nonneg hz0
        have hd12 : z.tdiv 12 = z / 12 := Int.tdiv_eq_ediv_of_nonneg hz0
        obtain ⟨q4, hq4⟩ : ∃ q, z / 4 = q := ⟨_, rfl⟩
        obtain ⟨q12, hq12⟩ : ∃ q, z / 12 = q := ⟨_, rfl⟩
        have h40 : 0 ≤ q4 := by omega
        have h120 : 0 ≤ q12 := by omega
        have h41 : q4 ≤ 9223372036854775807 := by omega
        have h121 : q12 ≤ 9223372036854775807 := by omega
        have hm3 : q4.tmod 3 = q4 % 3 := Int.tmod_eq_emod_of_nonneg h40
        have hm4 : q12.tmod 4 = q12 % 4 := Int.tmod_eq_emod_of_nonneg h120
        rw [hq4] at hd4
        rw [hq12] at hd12
        have lN := HNA.out.2.2.2.1
        have lA := HNA.out.2.2.2.2
        have lV := hV.out.1
        have yN : ((sv N).size : Int) ≤ 8388608 := by rw [sv_size]; omega
        have yA : ((sv A).size : Int) ≤ 8388608 := by rw [sv_size]; omega
        have yV : ((sv V).size : Int) ≤ 8388608 := by rw [sv_size]; omega
        have a1 : (⟨#[60]⟩ : ByteArray) ++ sv N = sv (60 :: N) := sv_add [60] N
        have y1 : ((sv (60 :: N)).size : Int) ≤ 8388608 := by rw [sv_size]; simp; omega
        have hm : ∀ cs ds, Hid (Mod (fun _ => False) w ((wc.alloc (.cells cs 9)).alloc (.cells ds 9)).drew) := fun cs ds => Lib.hid ((hMV.out.alloc _).alloc _).drew
        clear hq4 hr4
        have hj : q4 % 3 = 0 ∨ q4 % 3 = 1 ∨ q4 % 3 = 2 := by omega
        have hk : q12 % 4 = 0 ∨ q12 % 4 = 1 ∨ q12 % 4 = 2 ∨ q12 % 4 = 3 := by omega
        rcases hj with hj | hj | hj
        · skip
          rw [hj] at hm3
          have a2 : sv (60 :: N) ++ (⟨#[32]⟩ : ByteArray) = sv (60 :: N ++ [32]) := sv_add _ [32]
          have a3 : sv (60 :: N ++ [32]) ++ sv A = sv (60 :: N ++ [32] ++ A) := sv_add _ _
          have a4 : sv (60 :: N ++ [32] ++ A) ++ sv V = sv (60 :: N ++ [32] ++ A ++ V) := sv_add _ _
          have y2 : ((sv (60 :: N ++ [32])).size : Int) ≤ 8388608 := by rw [sv_size]; simp; omega
          have y3 : ((sv (60 :: N ++ [32] ++ A)).size : Int) ≤ 8388608 := by rw [sv_size]; simp; omega
          have y4 : ((sv (60 :: N ++ [32] ++ A ++ V)).size : Int) ≤ 8388608 := by rw [sv_size]; simp; omega
          obtain ⟨B1, hB1⟩ : ∃ B, (60 :: N : Bs) = B := ⟨_, rfl⟩
          obtain ⟨B4, hB4⟩ : ∃ B, (60 :: N ++ [32] ++ A ++ V : Bs) = B := ⟨_, rfl⟩
          rw [hB4] at a4 y4
          obtain ⟨B3, hB3⟩ : ∃ B, (60 :: N ++ [32] ++ A : Bs) = B := ⟨_, rfl⟩
          rw [hB3] at a3 a4 y3
          obtain ⟨B2, hB2⟩ : ∃ B, (60 :: N ++ [32] : Bs) = B := ⟨_, rfl⟩
          rw [hB2] at a2 a3 y2
          rw [hB1] at a1 a2 y1
          rcases hk with hk | hk | hk | hk
          · have a5 : sv B4 ++ (⟨#[62]⟩ : ByteArray) = sv (B4 ++ [62]) := sv_add _ [62]
            have HT : Hid (¬ (z % 4 = 3 ∧ z / 12 % 4 = 2) → TagT (B4 ++ [62])) := Lib.hid (fun h => by
              subst hB4
              refine ⟨by simp; omega, 60 :: N ++ [32] ++ A ++ V ++ [], by simp, ?_⟩
              have hvv := hV.out.2 [] (.inl rfl) (fun _ h => by cases h)
              exact HNA.out.1 [32] V [] (.inl rfl) (.inl rfl) hvv.1 hvv.2)
            have HL : (B4 ++ [62]).length ≤ 900 := by rw [← hB4]; simp; omega
            obtain ⟨B5, hB5⟩ : ∃ B, (B4 ++ [62] : Bs) = B := ⟨_, rfl⟩
            rw [hB5] at a5 HT HL
            rw [hk] at hm4
            clear hB1 hB2 hB3 hB4 hB5 hk hj hq12
            go_region
            all_goals
              go_wp2
              go_meet
              case rel => exact ⟨B5, rfl, HL, HT, hm _ _⟩
          · have a5 : sv B4 ++ (⟨#[32, 62]⟩ : ByteArray) = sv (B4 ++ [32, 62]) := sv_add _ [32, 62]
            have HT : Hid (¬ (z % 4 = 3 ∧ z / 12 % 4 = 2) → TagT (B4 ++ [32, 62])) := Lib.hid (fun h => by
              subst hB4
              refine ⟨by simp; omega, 60 :: N ++ [32] ++ A ++ V ++ [32], by simp, ?_⟩
              have hvv := hV.out.2 [32] (.inr (.inl rfl)) (fun _ h => by cases h)
              exact HNA.out.1 [32] V [32] (.inl rfl) (.inr (.inl rfl)) hvv.1 hvv.2)
            have HL : (B4 ++ [32, 62]).length ≤ 900 := by rw [← hB4]; simp; omega
            obtain ⟨B5, hB5⟩ : ∃ B, (B4 ++ [32, 62] : Bs) = B := ⟨_, rfl⟩
            rw [hB5] at a5 HT HL
            rw [hk] at hm4
            clear hB1 hB2 hB3 hB4 hB5 hk hj hq12
            go_region
            all_goals
              go_wp2
              go_meet
              case rel => exact ⟨B5, rfl, HL, HT, hm _ _⟩
          · have a5 : sv B4 ++ (⟨#[47, 62]⟩ : ByteArray) = sv (B4 ++ [47, 62]) := sv_add _ [47, 62]
            have HT : Hid (¬ (z % 4 = 3 ∧ z / 12 % 4 = 2) → TagT (B4 ++ [47, 62])) := Lib.hid (fun h => by
              subst hB4
              refine ⟨by simp; omega, 60 :: N ++ [32] ++ A ++ V ++ [47], by simp, ?_⟩
              have hvv := hV.out.2 [47] (.inr (.inr (.inl rfl))) (fun h3 _ => h ⟨h3, by rw [hq12]; exact hk⟩)
              exact HNA.out.1 [32] V [47] (.inl rfl) (.inr (.inr (.inl rfl))) hvv.1 hvv.2)
            have HL : (B4 ++ [47, 62]).length ≤ 900 := by rw [← hB4]; simp; omega
            obtain ⟨B5, hB5⟩ : ∃ B, (B4 ++ [47, 62] : Bs) = B := ⟨_, rfl⟩
            rw [hB5] at a5 HT HL
            rw [hk] at hm4
            clear hB1 hB2 hB3 hB4 hB5 hk hj hq12
            go_region
            all_goals
              go_wp2
              go_meet
              case rel => exact ⟨B5, rfl, HL, HT, hm _ _⟩
          · have a5 : sv B4 ++ (⟨#[32, 47, 62]⟩ : ByteArray) = sv (B4 ++ [32, 47, 62]) := sv_add _ [32, 47, 62]
            have HT : Hid (¬ (z % 4 = 3 ∧ z / 12 % 4 = 2) → TagT (B4 ++ [32, 47, 62])) := Lib.hid (fun h => by
              subst hB4
              refine ⟨by simp; omega, 60 :: N ++ [32] ++ A ++ V ++ [32, 47], by simp, ?_⟩
              have hvv := hV.out.2 [32, 47] (.inr (.inr (.inr rfl))) (fun _ h => by cases h)
              exact HNA.out.1 [32] V [32, 47] (.inl rfl) (.inr (.inr (.inr rfl))) hvv.1 hvv.2)
            have HL : (B4 ++ [32, 47, 62]).length ≤ 900 := by rw [← hB4]; simp; omega
            obtain ⟨B5, hB5⟩ : ∃ B, (B4 ++ [32, 47, 62] : Bs) = B := ⟨_, rfl⟩
            rw [hB5] at a5 HT HL
            rw [hk] at hm4
            clear hB1 hB2 hB3 hB4 hB5 hk hj hq12
            go_region
            all_goals
              go_wp2
              go_meet
              case rel => exact ⟨B5, rfl, HL, HT, hm _ _⟩
        · skip
          rw [hj] at hm3
          have a2 : sv (60 :: N) ++ (⟨#[10]⟩ : ByteArray) = sv (60 :: N ++ [10]) := sv_add _ [10]
          have a3 : sv (60 :: N ++ [10]) ++ sv A = sv (60 :: N ++ [10] ++ A) := sv_add _ _
          have a4 : sv (60 :: N ++ [10] ++ A) ++ sv V = sv (60 :: N ++ [10] ++ A ++ V) := sv_add _ _
          have y2 : ((sv (60 :: N ++ [10])).size : Int) ≤ 8388608 := by rw [sv_size]; simp; omega
          have y3 : ((sv (60 :: N ++ [10] ++ A)).size : Int) ≤ 8388608 := by rw [sv_size]; simp; omega
          have y4 : ((sv (60 :: N ++ [10] ++ A ++ V)).size : Int) ≤ 8388608 := by rw [sv_size]; simp; omega
          obtain ⟨B1, hB1⟩ : ∃ B, (60 :: N : Bs) = B := ⟨_, rfl⟩
          obtain ⟨B4, hB4⟩ : ∃ B, (60 :: N ++ [10] ++ A ++ V : Bs) = B := ⟨_, rfl⟩
          rw [hB4] at a4 y4
          obtain ⟨B3, hB3⟩ : ∃ B, (60 :: N ++ [10] ++ A : Bs) = B := ⟨_, rfl⟩
          rw [hB3] at a3 a4 y3
          obtain ⟨B2, hB2⟩ : ∃ B, (60 :: N ++ [10] : Bs) = B := ⟨_, rfl⟩
          rw [hB2] at a2 a3 y2
          rw [hB1] at a1 a2 y1
          rcases hk with hk | hk | hk | hk
          · have a5 : sv B4 ++ (⟨#[62]⟩ : ByteArray) = sv (B4 ++ [62]) := sv_add _ [62]
            have HT : Hid (¬ (z % 4 = 3 ∧ z / 12 % 4 = 2) → TagT (B4 ++ [62])) := Lib.hid (fun h => by
              subst hB4
              refine ⟨by simp; omega, 60 :: N ++ [10] ++ A ++ V ++ [], by simp, ?_⟩
              have hvv := hV.out.2 [] (.inl rfl) (fun _ h => by cases h)
              exact HNA.out.1 [10] V [] (.inr (.inl rfl)) (.inl rfl) hvv.1 hvv.2)
            have HL : (B4 ++ [62]).length ≤ 900 := by rw [← hB4]; simp; omega
            obtain ⟨B5, hB5⟩ : ∃ B, (B4 ++ [62] : Bs) = B := ⟨_, rfl⟩
            rw [hB5] at a5 HT HL
            rw [hk] at hm4
            clear hB1 hB2 hB3 hB4 hB5 hk hj hq12
            go_region
            all_goals
              go_wp2
              go_meet
              case rel => exact ⟨B5, rfl, HL, HT, hm _ _⟩
          · have a5 : sv B4 ++ (⟨#[32, 62]⟩ : ByteArray) = sv (B4 ++ [32, 62]) := sv_add _ [32, 62]
            have HT : Hid (¬ (z % 4 = 3 ∧ z / 12 % 4 = 2) → TagT (B4 ++ [32, 62])) := Lib.hid (fun h => by
              subst hB4
              refine ⟨by simp; omega, 60 :: N ++ [10] ++ A ++ V ++ [32], by simp, ?_⟩
              have hvv := hV.out.2 [32] (.inr (.inl rfl)) (fun _ h => by cases h)
              exact HNA.out.1 [10] V [32] (.inr (.inl rfl)) (.inr (.inl rfl)) hvv.1 hvv.2)
            have HL : (B4 ++ [32, 62]).length ≤ 900 := by rw [← hB4]; simp; omega
            obtain ⟨B5, hB5⟩ : ∃ B, (B4 ++ [32, 62] : Bs) = B := ⟨_, rfl⟩
            rw [hB5] at a5 HT HL
            rw [hk] at hm4
            clear hB1 hB2 hB3 hB4 hB5 hk hj hq12
            go_region
            all_goals
              go_wp2
              go_meet
              case rel => exact ⟨B5, rfl, HL, HT, hm _ _⟩
          · have a5 : sv B4 ++ (⟨#[47, 62]⟩ : ByteArray) = sv (B4 ++ [47, 62]) := sv_add _ [47, 62]
            have HT : Hid (¬ (z % 4 = 3 ∧ z / 12 % 4 = 2) → TagT (B4 ++ [47, 62])) := Lib.hid (fun h => by
              subst hB4
              refine ⟨by simp; omega, 60 :: N ++ [10] ++ A ++ V ++ [47], by simp, ?_⟩
              have hvv := hV.out.2 [47] (.inr (.inr (.inl rfl))) (fun h3 _ => h ⟨h3, by rw [hq12]; exact hk⟩)
              exact HNA.out.1 [10] V [47] (.inr (.inl rfl)) (.inr (.inr (.inl rfl))) hvv.1 hvv.2)
            have HL : (B4 ++ [47, 62]).length ≤ 900 := by rw [← hB4]; simp; omega
            obtain ⟨B5, hB5⟩ : ∃ B, (B4 ++ [47, 62] : Bs) = B := ⟨_, rfl⟩
            rw [hB5] at a5 HT HL
            rw [hk] at hm4
            clear hB1 hB2 hB3 hB4 hB5 hk hj hq12
            go_region
            all_goals
              go_wp2
              go_meet
              case rel => exact ⟨B5, rfl, HL, HT, hm _ _⟩
          · have a5 : sv B4 ++ (⟨#[32, 47, 62]⟩ : ByteArray) = sv (B4 ++ [32, 47, 62]) := sv_add _ [32, 47, 62]
            have HT : Hid (¬ (z % 4 = 3 ∧ z / 12 % 4 = 2) → TagT (B4 ++ [32, 47, 62])) := Lib.hid (fun h => by
              subst hB4
              refine ⟨by simp; omega, 60 :: N ++ [10] ++ A ++ V ++ [32, 47], by simp, ?_⟩
              have hvv := hV.out.2 [32, 47] (.inr (.inr (.inr rfl))) (fun _ h => by cases h)
              exact HNA.out.1 [10] V [32, 47] (.inr (.inl rfl)) (.inr (.inr (.inr rfl))) hvv.1 hvv.2)
            have HL : (B4 ++ [32, 47, 62]).length ≤ 900 := by rw [← hB4]; simp; omega
            obtain ⟨B5, hB5⟩ : ∃ B, (B4 ++ [32, 47, 62] : Bs) = B := ⟨_, rfl⟩
            rw [hB5] at a5 HT HL
            rw [hk] at hm4
            clear hB1 hB2 hB3 hB4 hB5 hk hj hq12
            go_region
            all_goals
              go_wp2
              go_meet
              case rel => exact ⟨B5, rfl, HL, HT, hm _ _⟩
        · skip
          rw [hj] at hm3
          have a2 : sv (60 :: N) ++ (⟨#[32, 9, 32]⟩ : ByteArray) = sv (60 :: N ++ [32, 9, 32]) := sv_add _ [32, 9, 32]
          have a3 : sv (60 :: N ++ [32, 9, 32]) ++ sv A = sv (60 :: N ++ [32, 9, 32] ++ A) := sv_add _ _
          have a4 : sv (60 :: N ++ [32, 9, 32] ++ A) ++ sv V = sv (60 :: N ++ [32, 9, 32] ++ A ++ V) := sv_add _ _
          have y2 : ((sv (60 :: N ++ [32, 9, 32])).size : Int) ≤ 8388608 := by rw [sv_size]; simp; omega
          have y3 : ((sv (60 :: N ++ [32, 9, 32] ++ A)).size : Int) ≤ 8388608 := by rw [sv_size]; simp; omega
          have y4 : ((sv (60 :: N ++ [32, 9, 32] ++ A ++ V)).size : Int) ≤ 8388608 := by rw [sv_size]; simp; omega
          obtain ⟨B1, hB1⟩ : ∃ B, (60 :: N : Bs) = B := ⟨_, rfl⟩
          obtain ⟨B4, hB4⟩ : ∃ B, (60 :: N ++ [32, 9, 32] ++ A ++ V : Bs) = B := ⟨_, rfl⟩
          rw [hB4] at a4 y4
          obtain ⟨B3, hB3⟩ : ∃ B, (60 :: N ++ [32, 9, 32] ++ A : Bs) = B := ⟨_, rfl⟩
          rw [hB3] at a3 a4 y3
          obtain ⟨B2, hB2⟩ : ∃ B, (60 :: N ++ [32, 9, 32] : Bs) = B := ⟨_, rfl⟩
          rw [hB2] at a2 a3 y2
          rw [hB1] at a1 a2 y1
          rcases hk with hk | hk | hk | hk
          · have a5 : sv B4 ++ (⟨#[62]⟩ : ByteArray) = sv (B4 ++ [62]) := sv_add _ [62]
            have HT : Hid (¬ (z % 4 = 3 ∧ z / 12 % 4 = 2) → TagT (B4 ++ [62])) := Lib.hid (fun h => by
              subst hB4
              refine ⟨by simp; omega, 60 :: N ++ [32, 9, 32] ++ A ++ V ++ [], by simp, ?_⟩
              have hvv := hV.out.2 [] (.inl rfl) (fun _ h => by cases h)
              exact HNA.out.1 [32, 9, 32] V [] (.inr (.inr rfl)) (.inl rfl) hvv.1 hvv.2)
            have HL : (B4 ++ [62]).length ≤ 900 := by rw [← hB4]; simp; omega
            obtain ⟨B5, hB5⟩ : ∃ B, (B4 ++ [62] : Bs) = B := ⟨_, rfl⟩
            rw [hB5] at a5 HT HL
            rw [hk] at hm4
            clear hB1 hB2 hB3 hB4 hB5 hk hj hq12
            go_region
            all_goals
              go_wp2
              go_meet
              case rel => exact ⟨B5, rfl, HL, HT, hm _ _⟩
          · have a5 : sv B4 ++ (⟨#[32, 62]⟩ : ByteArray) = sv (B4 ++ [32, 62]) := sv_add _ [32, 62]
            have HT : Hid (¬ (z % 4 = 3 ∧ z / 12 % 4 = 2) → TagT (B4 ++ [32, 62])) := Lib.hid (fun h => by
              subst hB4
              refine ⟨by simp; omega, 60 :: N ++ [32, 9, 32] ++ A ++ V ++ [32], by simp, ?_⟩
              have hvv := hV.out.2 [32] (.inr (.inl rfl)) (fun _ h => by cases h)
              exact HNA.out.1 [32, 9, 32] V [32] (.inr (.inr rfl)) (.inr (.inl rfl)) hvv.1 hvv.2)
            have HL : (B4 ++ [32, 62]).length ≤ 900 := by rw [← hB4]; simp; omega
            obtain ⟨B5, hB5⟩ : ∃ B, (B4 ++ [32, 62] : Bs) = B := ⟨_, rfl⟩
            rw [hB5] at a5 HT HL
            rw [hk] at hm4
            clear hB1 hB2 hB3 hB4 hB5 hk hj hq12
            go_region
            all_goals
              go_wp2
              go_meet
              case rel => exact ⟨B5, rfl, HL, HT, hm _ _⟩
          · have a5 : sv B4 ++ (⟨#[47, 62]⟩ : ByteArray) = sv (B4 ++ [47, 62]) := sv_add _ [47, 62]
            have HT : Hid (¬ (z % 4 = 3 ∧ z / 12 % 4 = 2) → TagT (B4 ++ [47, 62])) := Lib.hid (fun h => by
              subst hB4
              refine ⟨by simp; omega, 60 :: N ++ [32, 9, 32] ++ A ++ V ++ [47], by simp, ?_⟩
              have hvv := hV.out.2 [47] (.inr (.inr (.inl rfl))) (fun h3 _ => h ⟨h3, by rw [hq12]; exact hk⟩)
              exact HNA.out.1 [32, 9, 32] V [47] (.inr (.inr rfl)) (.inr (.inr (.inl rfl))) hvv.1 hvv.2)
            have HL : (B4 ++ [47, 62]).length ≤ 900 := by rw [← hB4]; simp; omega
            obtain ⟨B5, hB5⟩ : ∃ B, (B4 ++ [47, 62] : Bs) = B := ⟨_, rfl⟩
            rw [hB5] at a5 HT HL
            rw [hk] at hm4
            clear hB1 hB2 hB3 hB4 hB5 hk hj hq12
            go_region
            all_goals
              go_wp2
              go_meet
              case rel => exact ⟨B5, rfl, HL, HT, hm _ _⟩
          · have a5 : sv B4 ++ (⟨#[32, 47, 62]⟩ : ByteArray) = sv (B4 ++ [32, 47, 62]) := sv_add _ [32, 47, 62]
            have HT : Hid (¬ (z % 4 = 3 ∧ z / 12 % 4 = 2) → TagT (B4 ++ [32, 47, 62])) := Lib.hid (fun h => by
              subst hB4
              refine ⟨by simp; omega, 60 :: N ++ [32, 9, 32] ++ A ++ V ++ [32, 47], by simp, ?_⟩
              have hvv := hV.out.2 [32, 47] (.inr (.inr (.inr rfl))) (fun _ h => by cases h)
              exact HNA.out.1 [32, 9, 32] V [32, 47] (.inr (.inr rfl)) (.inr (.inr (.inr rfl))) hvv.1 hvv.2)
            have HL : (B4 ++ [32, 47, 62]).length ≤ 900 := by rw [← hB4]; simp; omega
            obtain ⟨B5, hB5⟩ : ∃ B, (B4 ++ [32, 47, 62] : Bs) = B := ⟨_, rfl⟩
            rw [hB5] at a5 HT HL
            rw [hk] at hm4
            clear hB1 hB2 hB3 hB4 hB5 hk hj hq12
            go_region
            all_goals
              go_wp2
              go_meet
              case rel => exact ⟨B5, rfl, HL, HT, hm _ _⟩
      case rest =>
        obtain ⟨S, rfl, hSl, hST, hMS⟩ := hcut
        have hd12 : z.tdiv 12 = z / 12 := Int.tdiv_eq_ediv_of_nonneg hz0
        obtain ⟨q12, hq12⟩ : ∃ q, z / 12 = q := ⟨_, rfl⟩
        have h120 : 0 ≤ q12 := by omega
        have h121 : q12 ≤ 9223372036854775807 := by omega
        have hm4 : q12.tmod 4 = q12 % 4 := Int.tmod_eq_emod_of_nonneg h120
        rw [hq12] at hd12
        by_cases h3 : z % 4 = 3
        · by_cases h2 : q12 % 4 = 2
          · have a1 : (⟨#[60]⟩ : ByteArray) ++ sv N = sv (60 :: N) := sv_add [60] N
            have a2 : sv (60 :: N) ++ (⟨#[62]⟩ : ByteArray) = sv (60 :: N ++ [62]) := sv_add _ [62]
            have lN := HNA.out.2.2.2.1
            have yN : ((sv N).size : Int) ≤ 8388608 := by rw [sv_size]; omega
            have y1 : ((sv (60 :: N)).size : Int) ≤ 8388608 := by rw [sv_size]; simp; omega
            have HTS : Hid (TagT (60 :: N ++ [62])) := Lib.hid ⟨by simp; omega, 60 :: N, rfl, HNA.out.2.1⟩
            obtain ⟨S2, hS2⟩ : ∃ C, (60 :: N ++ [62] : Bs) = C := ⟨_, rfl⟩
            obtain ⟨S1, hS1⟩ : ∃ C, (60 :: N : Bs) = C := ⟨_, rfl⟩
            rw [hS2] at a2 HTS
            rw [hS1] at a1 a2 y1
            rw [h3] at hr4
            rw [h2] at hm4
            clear hS1 hS2 hq12 hST h3 h2
            have hr3 : z.tmod 3 = z % 3 := Int.tmod_eq_emod_of_nonneg hz0
            go_upto_region 10 with (fail)
            go_cut [16] (fun t wy => ∃ C, t = .string (sv C) ∧ Hid (TagT C) ∧ Hid (Mod (fun _ => False) w wy))
            case first =>
              have a1 : (⟨#[60, 47]⟩ : ByteArray) ++ sv N = sv (60 :: 47 :: N) := sv_add [60, 47] N
              have lN := HNA.out.2.2.2.1
              have yN : ((sv N).size : Int) ≤ 8388608 := by rw [sv_size]; omega
              have y1 : ((sv (60 :: 47 :: N)).size : Int) ≤ 8388608 := by rw [sv_size]; simp; omega
              have hma : ∀ cs, Hid (Mod (fun _ => False) w (wc.alloc (.cells cs 9))) := fun cs => Lib.hid (hMS.out.alloc _)
              have hx : z % 3 = 0 ∨ z % 3 = 1 ∨ z % 3 = 2 := by omega
              rcases hx with hx | hx | hx
              · have a2 : sv (60 :: 47 :: N) ++ (⟨#[62]⟩ : ByteArray) = sv (60 :: 47 :: N ++ [62]) := sv_add _ [62]
                have HT2 : Hid (TagT (60 :: 47 :: N ++ [62])) := Lib.hid ⟨by simp; omega, 60 :: 47 :: N ++ [], by simp, HNA.out.2.2.1 [] (.inl rfl)⟩
                rw [hx] at hr3
                obtain ⟨C2, hC2⟩ : ∃ C, (60 :: 47 :: N ++ [62] : Bs) = C := ⟨_, rfl⟩
                obtain ⟨C1, hC1⟩ : ∃ C, (60 :: 47 :: N : Bs) = C := ⟨_, rfl⟩
                rw [hC2] at a2 HT2
                rw [hC1] at a1 a2 y1
                clear hC1 hC2 hx
                go_wp2
                go_meet
                case rel => exact ⟨C2, rfl, HT2, hma _⟩
              · have a2 : sv (60 :: 47 :: N) ++ (⟨#[32, 62]⟩ : ByteArray) = sv (60 :: 47 :: N ++ [32, 62]) := sv_add _ [32, 62]
                have HT2 : Hid (TagT (60 :: 47 :: N ++ [32, 62])) := Lib.hid ⟨by simp; omega, 60 :: 47 :: N ++ [32], by simp, HNA.out.2.2.1 [32] (.inr (.inl rfl))⟩
                rw [hx] at hr3
                obtain ⟨C2, hC2⟩ : ∃ C, (60 :: 47 :: N ++ [32, 62] : Bs) = C := ⟨_, rfl⟩
                obtain ⟨C1, hC1⟩ : ∃ C, (60 :: 47 :: N : Bs) = C := ⟨_, rfl⟩
                rw [hC2] at a2 HT2
                rw [hC1] at a1 a2 y1
                clear hC1 hC2 hx
                go_wp2
                go_meet
                case rel => exact ⟨C2, rfl, HT2, hma _⟩
              · have a2 : sv (60 :: 47 :: N) ++ (⟨#[10, 62]⟩ : ByteArray) = sv (60 :: 47 :: N ++ [10, 62]) := sv_add _ [10, 62]
                have HT2 : Hid (TagT (60 :: 47 :: N ++ [10, 62])) := Lib.hid ⟨by simp; omega, 60 :: 47 :: N ++ [10], by simp, HNA.out.2.2.1 [10] (.inr (.inr rfl))⟩
                rw [hx] at hr3
                obtain ⟨C2, hC2⟩ : ∃ C, (60 :: 47 :: N ++ [10, 62] : Bs) = C := ⟨_, rfl⟩
                obtain ⟨C1, hC1⟩ : ∃ C, (60 :: 47 :: N : Bs) = C := ⟨_, rfl⟩
                rw [hC2] at a2 HT2
                rw [hC1] at a1 a2 y1
                clear hC1 hC2 hx
                go_wp2
                go_meet
                case rel => exact ⟨C2, rfl, HT2, hma _⟩
            case rest =>
              obtain ⟨C, rfl, HTC, HMC⟩ := hcut
              obtain ⟨hSl, p, hSp, hpt⟩ := HTS.out
              obtain ⟨hCl, p2, hCp, hpt2⟩ := HTC.out
              have W1 := tag_len hpt b
              have W2 := tag_len hpt2 b
              have W3 := tag_len hpt2 []
              rw [← hSp] at W1
              rw [← hCp] at W2 W3
              rw [List.append_nil] at W3
              have HBB := HB.out.2.2.2
              have LL : Hid ((S2 ++ b).length ≤ 4294967280 ∧ (C ++ b).length ≤ 4294967280 ∧ C.length ≤ 4294967280) := Lib.hid (by simp; omega)
              have d1 : sv S2 ++ sv b = sv (S2 ++ b) := sv_add _ _
              have d2 : sv C ++ sv b = sv (C ++ b) := sv_add _ _
              obtain ⟨sl, hsl⟩ : ∃ n, S2.length = n := ⟨_, rfl⟩
              obtain ⟨cl, hcl⟩ : ∃ n, C.length = n := ⟨_, rfl⟩
              have zS : (sv S2).size = sl := by rw [sv_size, hsl]
              have zC : (sv C).size = cl := by rw [sv_size, hcl]
              have yS : (sl : Int) ≤ 8388608 := by omega
              have yC : (cl : Int) ≤ 8388608 := by omega
              have yb : ((sv b).size : Int) ≤ 8388608 := by rw [sv_size]; omega
              rw [hsl] at W1
              rw [hcl] at W2 W3
              obtain ⟨Sb, hSb⟩ : ∃ n, S2 ++ b = n := ⟨_, rfl⟩
              obtain ⟨Cb, hCb⟩ : ∃ n, C ++ b = n := ⟨_, rfl⟩
              rw [hSb] at d1 W1 LL
              rw [hCb] at d2 W2 LL
              have HW : Hid ((tagN Sb = sl ∧ rawN Sb = sl) ∧ (tagN Cb = cl ∧ rawN Cb = cl) ∧ tagN C = cl ∧ rawN C = cl) := Lib.hid ⟨W1, W2, W3⟩
              clear W1 W2 W3 hSb hCb hsl hcl hSl hSp hpt hCl hCp hpt2 HBB
              go_wp2_with (fail)
              refine (tag_n HW.out.1.1 LL.out.1 _).mono ?_
              rintro e v1 ⟨rfl, h⟩
              have K1 := Lib.hid (HMC.out.trans h (fun _ h => h.elim))
              clear h
              go_wp2_with (fail)
              refine (raw_n HW.out.1.2 m LL.out.1 _ (mod_cell K1.out HM.out)).mono ?_
              rintro e v2 ⟨rfl, h⟩
              have K2 := Lib.hid (K1.out.trans h (fun _ h => h.elim))
              clear h K1
              go_wp2_with (fail)
              refine (tag_n HW.out.2.1.1 LL.out.2.1 _).mono ?_
              rintro e v3 ⟨rfl, h⟩
              have K3 := Lib.hid (K2.out.trans h (fun _ h => h.elim))
              clear h K2
              go_wp2_with (fail)
              refine (raw_n HW.out.2.2.2 m LL.out.2.2 _ (mod_cell K3.out HM.out)).mono ?_
              rintro e v4 ⟨rfl, h⟩
              have K4 := Lib.hid (K3.out.trans h (fun _ h => h.elim))
              clear h K3
              go_wp2
              go_ret
              exact ⟨rfl, K4.out⟩
          · have HTS : Hid (TagT S) := Lib.hid (hST.out (fun h => h2 (by rw [← hq12]; exact h.2)))
            have hq2' : (q12 % 4 == 2) = false := beq_eq_false_iff_ne.2 h2
            rw [h3] at hr4
            clear hq12 hST h3 h2
            have hr3 : z.tmod 3 = z % 3 := Int.tmod_eq_emod_of_nonneg hz0
            go_upto_region 10 with (fail)
            go_cut [16] (fun t wy => ∃ C, t = .string (sv C) ∧ Hid (TagT C) ∧ Hid (Mod (fun _ => False) w wy))
            case first =>
              have a1 : (⟨#[60, 47]⟩ : ByteArray) ++ sv N = sv (60 :: 47 :: N) := sv_add [60, 47] N
              have lN := HNA.out.2.2.2.1
              have yN : ((sv N).size : Int) ≤ 8388608 := by rw [sv_size]; omega
              have y1 : ((sv (60 :: 47 :: N)).size : Int) ≤ 8388608 := by rw [sv_size]; simp; omega
              have hma : ∀ cs, Hid (Mod (fun _ => False) w (wc.alloc (.cells cs 9))) := fun cs => Lib.hid (hMS.out.alloc _)
              have hx : z % 3 = 0 ∨ z % 3 = 1 ∨ z % 3 = 2 := by omega
              rcases hx with hx | hx | hx
              · have a2 : sv (60 :: 47 :: N) ++ (⟨#[62]⟩ : ByteArray) = sv (60 :: 47 :: N ++ [62]) := sv_add _ [62]
                have HT2 : Hid (TagT (60 :: 47 :: N ++ [62])) := Lib.hid ⟨by simp; omega, 60 :: 47 :: N ++ [], by simp, HNA.out.2.2.1 [] (.inl rfl)⟩
                rw [hx] at hr3
                obtain ⟨C2, hC2⟩ : ∃ C, (60 :: 47 :: N ++ [62] : Bs) = C := ⟨_, rfl⟩
                obtain ⟨C1, hC1⟩ : ∃ C, (60 :: 47 :: N : Bs) = C := ⟨_, rfl⟩
                rw [hC2] at a2 HT2
                rw [hC1] at a1 a2 y1
                clear hC1 hC2 hx
                go_wp2
                go_meet
                case rel => exact ⟨C2, rfl, HT2, hma _⟩
              · have a2 : sv (60 :: 47 :: N) ++ (⟨#[32, 62]⟩ : ByteArray) = sv (60 :: 47 :: N ++ [32, 62]) := sv_add _ [32, 62]
                have HT2 : Hid (TagT (60 :: 47 :: N ++ [32, 62])) := Lib.hid ⟨by simp; omega, 60 :: 47 :: N ++ [32], by simp, HNA.out.2.2.1 [32] (.inr (.inl rfl))⟩
                rw [hx] at hr3
                obtain ⟨C2, hC2⟩ : ∃ C, (60 :: 47 :: N ++ [32, 62] : Bs) = C := ⟨_, rfl⟩
                obtain ⟨C1, hC1⟩ : ∃ C, (60 :: 47 :: N : Bs) = C := ⟨_, rfl⟩
                rw [hC2] at a2 HT2
                rw [hC1] at a1 a2 y1
                clear hC1 hC2 hx
                go_wp2
                go_meet
                case rel => exact ⟨C2, rfl, HT2, hma _⟩
              · have a2 : sv (60 :: 47 :: N) ++ (⟨#[10, 62]⟩ : ByteArray) = sv (60 :: 47 :: N ++ [10, 62]) := sv_add _ [10, 62]
                have HT2 : Hid (TagT (60 :: 47 :: N ++ [10, 62])) := Lib.hid ⟨by simp; omega, 60 :: 47 :: N ++ [10], by simp, HNA.out.2.2.1 [10] (.inr (.inr rfl))⟩
                rw [hx] at hr3
                obtain ⟨C2, hC2⟩ : ∃ C, (60 :: 47 :: N ++ [10, 62] : Bs) = C := ⟨_, rfl⟩
                obtain ⟨C1, hC1⟩ : ∃ C, (60 :: 47 :: N : Bs) = C := ⟨_, rfl⟩
                rw [hC2] at a2 HT2
                rw [hC1] at a1 a2 y1
                clear hC1 hC2 hx
                go_wp2
                go_meet
                case rel => exact ⟨C2, rfl, HT2, hma _⟩
            case rest =>
              obtain ⟨C, rfl, HTC, HMC⟩ := hcut
              obtain ⟨hSl, p, hSp, hpt⟩ := HTS.out
              obtain ⟨hCl, p2, hCp, hpt2⟩ := HTC.out
              have W1 := tag_len hpt b
              have W2 := tag_len hpt2 b
              have W3 := tag_len hpt2 []
              rw [← hSp] at W1
              rw [← hCp] at W2 W3
              rw [List.append_nil] at W3
              have HBB := HB.out.2.2.2
              have LL : Hid ((S ++ b).length ≤ 4294967280 ∧ (C ++ b).length ≤ 4294967280 ∧ C.length ≤ 4294967280) := Lib.hid (by simp; omega)
              have d1 : sv S ++ sv b = sv (S ++ b) := sv_add _ _
              have d2 : sv C ++ sv b = sv (C ++ b) := sv_add _ _
              obtain ⟨sl, hsl⟩ : ∃ n, S.length = n := ⟨_, rfl⟩
              obtain ⟨cl, hcl⟩ : ∃ n, C.length = n := ⟨_, rfl⟩
              have zS : (sv S).size = sl := by rw [sv_size, hsl]
              have zC : (sv C).size = cl := by rw [sv_size, hcl]
              have yS : (sl : Int) ≤ 8388608 := by omega
              have yC : (cl : Int) ≤ 8388608 := by omega
              have yb : ((sv b).size : Int) ≤ 8388608 := by rw [sv_size]; omega
              rw [hsl] at W1
              rw [hcl] at W2 W3
              obtain ⟨Sb, hSb⟩ : ∃ n, S ++ b = n := ⟨_, rfl⟩
              obtain ⟨Cb, hCb⟩ : ∃ n, C ++ b = n := ⟨_, rfl⟩
              rw [hSb] at d1 W1 LL
              rw [hCb] at d2 W2 LL
              have HW : Hid ((tagN Sb = sl ∧ rawN Sb = sl) ∧ (tagN Cb = cl ∧ rawN Cb = cl) ∧ tagN C = cl ∧ rawN C = cl) := Lib.hid ⟨W1, W2, W3⟩
              clear W1 W2 W3 hSb hCb hsl hcl hSl hSp hpt hCl hCp hpt2 HBB
              go_wp2_with (fail)
              refine (tag_n HW.out.1.1 LL.out.1 _).mono ?_
              rintro e v1 ⟨rfl, h⟩
              have K1 := Lib.hid (HMC.out.trans h (fun _ h => h.elim))
              clear h
              go_wp2_with (fail)
              refine (raw_n HW.out.1.2 m LL.out.1 _ (mod_cell K1.out HM.out)).mono ?_
              rintro e v2 ⟨rfl, h⟩
              have K2 := Lib.hid (K1.out.trans h (fun _ h => h.elim))
              clear h K1
              go_wp2_with (fail)
              refine (tag_n HW.out.2.1.1 LL.out.2.1 _).mono ?_
              rintro e v3 ⟨rfl, h⟩
              have K3 := Lib.hid (K2.out.trans h (fun _ h => h.elim))
              clear h K2
              go_wp2_with (fail)
              refine (raw_n HW.out.2.2.2 m LL.out.2.2 _ (mod_cell K3.out HM.out)).mono ?_
              rintro e v4 ⟨rfl, h⟩
              have K4 := Lib.hid (K3.out.trans h (fun _ h => h.elim))
              clear h K3
              go_wp2
              go_ret
              exact ⟨rfl, K4.out⟩
        · have HTS : Hid (TagT S) := Lib.hid (hST.out (fun h => h3 h.1))
          have hq2' : (z % 4 == 3) = false := beq_eq_false_iff_ne.2 h3
          clear hq12 hST h3
          have hr3 : z.tmod 3 = z % 3 := Int.tmod_eq_emod_of_nonneg hz0
          go_upto_region 10 with (fail)
          go_cut [16] (fun t wy => ∃ C, t = .string (sv C) ∧ Hid (TagT C) ∧ Hid (Mod (fun _ => False) w wy))
          case first =>
            have a1 : (⟨#[60, 47]⟩ : ByteArray) ++ sv N = sv (60 :: 47 :: N) := sv_add [60, 47] N
            have lN := HNA.out.2.2.2.1
            have yN : ((sv N).size : Int) ≤ 8388608 := by rw [sv_size]; omega
            have y1 : ((sv (60 :: 47 :: N)).size : Int) ≤ 8388608 := by rw [sv_size]; simp; omega
            have hma : ∀ cs, Hid (Mod (fun _ => False) w (wc.alloc (.cells cs 9))) := fun cs => Lib.hid (hMS.out.alloc _)
            have hx : z % 3 = 0 ∨ z % 3 = 1 ∨ z % 3 = 2 := by omega
            rcases hx with hx | hx | hx
            · have a2 : sv (60 :: 47 :: N) ++ (⟨#[62]⟩ : ByteArray) = sv (60 :: 47 :: N ++ [62]) := sv_add _ [62]
              have HT2 : Hid (TagT (60 :: 47 :: N ++ [62])) := Lib.hid ⟨by simp; omega, 60 :: 47 :: N ++ [], by simp, HNA.out.2.2.1 [] (.inl rfl)⟩
              rw [hx] at hr3
              obtain ⟨C2, hC2⟩ : ∃ C, (60 :: 47 :: N ++ [62] : Bs) = C := ⟨_, rfl⟩
              obtain ⟨C1, hC1⟩ : ∃ C, (60 :: 47 :: N : Bs) = C := ⟨_, rfl⟩
              rw [hC2] at a2 HT2
              rw [hC1] at a1 a2 y1
              clear hC1 hC2 hx
              go_wp2
              go_meet
              case rel => exact ⟨C2, rfl, HT2, hma _⟩
            · have a2 : sv (60 :: 47 :: N) ++ (⟨#[32, 62]⟩ : ByteArray) = sv (60 :: 47 :: N ++ [32, 62]) := sv_add _ [32, 62]
              have HT2 : Hid (TagT (60 :: 47 :: N ++ [32, 62])) := Lib.hid ⟨by simp; omega, 60 :: 47 :: N ++ [32], by simp, HNA.out.2.2.1 [32] (.inr (.inl rfl))⟩
              rw [hx] at hr3
              obtain ⟨C2, hC2⟩ : ∃ C, (60 :: 47 :: N ++ [32, 62] : Bs) = C := ⟨_, rfl⟩
              obtain ⟨C1, hC1⟩ : ∃ C, (60 :: 47 :: N : Bs) = C := ⟨_, rfl⟩
              rw [hC2] at a2 HT2
              rw [hC1] at a1 a2 y1
              clear hC1 hC2 hx
              go_wp2
              go_meet
              case rel => exact ⟨C2, rfl, HT2, hma _⟩
            · have a2 : sv (60 :: 47 :: N) ++ (⟨#[10, 62]⟩ : ByteArray) = sv (60 :: 47 :: N ++ [10, 62]) := sv_add _ [10, 62]
              have HT2 : Hid (TagT (60 :: 47 :: N ++ [10, 62])) := Lib.hid ⟨by simp; omega, 60 :: 47 :: N ++ [10], by simp, HNA.out.2.2.1 [10] (.inr (.inr rfl))⟩
              rw [hx] at hr3
              obtain ⟨C2, hC2⟩ : ∃ C, (60 :: 47 :: N ++ [10, 62] : Bs) = C := ⟨_, rfl⟩
              obtain ⟨C1, hC1⟩ : ∃ C, (60 :: 47 :: N : Bs) = C := ⟨_, rfl⟩
              rw [hC2] at a2 HT2
              rw [hC1] at a1 a2 y1
              clear hC1 hC2 hx
              go_wp2
              go_meet
              case rel => exact ⟨C2, rfl, HT2, hma _⟩
          case rest =>
            obtain ⟨C, rfl, HTC, HMC⟩ := hcut
            obtain ⟨hSl, p, hSp, hpt⟩ := HTS.out
            obtain ⟨hCl, p2, hCp, hpt2⟩ := HTC.out
            have W1 := tag_len hpt b
            have W2 := tag_len hpt2 b
            have W3 := tag_len hpt2 []
            rw [← hSp] at W1
            rw [← hCp] at W2 W3
            rw [List.append_nil] at W3
            have HBB := HB.out.2.2.2
            have LL : Hid ((S ++ b).length ≤ 4294967280 ∧ (C ++ b).length ≤ 4294967280 ∧ C.length ≤ 4294967280) := Lib.hid (by simp; omega)
            have d1 : sv S ++ sv b = sv (S ++ b) := sv_add _ _
            have d2 : sv C ++ sv b = sv (C ++ b) := sv_add _ _
            obtain ⟨sl, hsl⟩ : ∃ n, S.length = n := ⟨_, rfl⟩
            obtain ⟨cl, hcl⟩ : ∃ n, C.length = n := ⟨_, rfl⟩
            have zS : (sv S).size = sl := by rw [sv_size, hsl]
            have zC : (sv C).size = cl := by rw [sv_size, hcl]
            have yS : (sl : Int) ≤ 8388608 := by omega
            have yC : (cl : Int) ≤ 8388608 := by omega
            have yb : ((sv b).size : Int) ≤ 8388608 := by rw [sv_size]; omega
            rw [hsl] at W1
            rw [hcl] at W2 W3
            obtain ⟨Sb, hSb⟩ : ∃ n, S ++ b = n := ⟨_, rfl⟩
            obtain ⟨Cb, hCb⟩ : ∃ n, C ++ b = n := ⟨_, rfl⟩
            rw [hSb] at d1 W1 LL
            rw [hCb] at d2 W2 LL
            have HW : Hid ((tagN Sb = sl ∧ rawN Sb = sl) ∧ (tagN Cb = cl ∧ rawN Cb = cl) ∧ tagN C = cl ∧ rawN C = cl) := Lib.hid ⟨W1, W2, W3⟩
            clear W1 W2 W3 hSb hCb hsl hcl hSl hSp hpt hCl hCp hpt2 HBB
            go_wp2_with (fail)
            refine (tag_n HW.out.1.1 LL.out.1 _).mono ?_
            rintro e v1 ⟨rfl, h⟩
            have K1 := Lib.hid (HMC.out.trans h (fun _ h => h.elim))
            clear h
            go_wp2_with (fail)
            refine (raw_n HW.out.1.2 m LL.out.1 _ (mod_cell K1.out HM.out)).mono ?_
            rintro e v2 ⟨rfl, h⟩
            have K2 := Lib.hid (K1.out.trans h (fun _ h => h.elim))
            clear h K1
            go_wp2_with (fail)
            refine (tag_n HW.out.2.1.1 LL.out.2.1 _).mono ?_
            rintro e v3 ⟨rfl, h⟩
            have K3 := Lib.hid (K2.out.trans h (fun _ h => h.elim))
            clear h K2
            go_wp2_with (fail)
            refine (raw_n HW.out.2.2.2 m LL.out.2.2 _ (mod_cell K3.out HM.out)).mono ?_
            rintro e v4 ⟨rfl, h⟩
            have K4 := Lib.hid (K3.out.trans h (fun _ h => h.elim))
            clear h K3
            go_wp2
            go_ret
            exact ⟨rfl, K4.out⟩
end Go.Proofs.YtkmidilaabgooaaDoor
