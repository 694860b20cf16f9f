/-
  Code.
-/
import Derived.Test.YtkmidilaabgooaaDoorCk
namespace Go.Proofs.YtkmidilaabgooaaDoor
open Go.RowKit Mem
set_option linter.unusedVariables false
set_option linter.unusedSimpArgs false

theorem close_absent (k : Nat) : ∀ l : Bs, 96 ∉ l → close k l = none
  | [], _ => by rw [close]
  | c :: l, h => by
    have hc : (c == 96) = false := by rw [beq_eq_false_iff_ne]; rintro rfl; simp at h
    rw [close_cons hc, close_absent k l (fun h2 => h (List.mem_cons_of_mem _ h2))]
    rfl
theorem map_id2 (o : Option (Bs × Bs)) : (o.map fun p => (([] : Bs) ++ p.1, p.2)) = o := by
  cases o with
  | none => rfl
  | some p => rfl
theorem close_upto (k : Nat) : ∀ (i : Nat) (l : Bs), (∀ x ∈ l.take i, (x == 96) = false) → i ≤ l.length → close k l = (close k (l.drop i)).map fun p => (l.take i ++ p.1, p.2)
  | 0, l, _, _ => by
    rw [List.drop_zero, List.take_zero, map_id2]
  | i + 1, [], _, h => by simp at h
  | i + 1, c :: l, h, hl => by
    have hc := h c (by simp)
    rw [close_cons hc, close_upto k i l (fun x hx => h x (by simp [hx])) (by simpa using hl)]
    simp only [List.drop_succ_cons, List.take_succ_cons, Option.map_map]
    rfl
theorem idx_first (c : UInt8) : ∀ l : Bs, (Lib.indexByte l c = -1 ∧ c ∉ l) ∨ ∃ i : Nat, Lib.indexByte l c = i ∧ i < l.length ∧ (∀ x ∈ l.take i, (x == c) = false) ∧ (l.drop i).head? = some c
  | [] => .inl ⟨rfl, by simp⟩
  | b :: l => by
    by_cases h : (b == c) = true
    · refine .inr ⟨0, by simp [Lib.indexByte, h], by simp, by simp, ?_⟩
      rw [beq_iff_eq] at h
      rw [h]; rfl
    · have hb : (b == c) = false := by simpa using h
      rcases idx_first c l with ⟨h1, h2⟩ | ⟨n, h1, h2, h3, h4⟩
      · refine .inl ⟨by simp [Lib.indexByte, h, h1], ?_⟩
        intro hm
        rcases List.mem_cons.1 hm with rfl | hm
        · simp at hb
        · exact h2 hm
      · refine .inr ⟨n + 1, ?_, by simpa using h2, ?_, h4⟩
        · simp only [Lib.indexByte, h, h1]
          have : ((n : Int) == -1) = false := by simp
          simp [this]
        · intro x hx
          rw [List.take_succ_cons] at hx
          rcases List.mem_cons.1 hx with rfl | hx
          · exact hb
          · exact h3 x hx
theorem repl_map (f : Nat) : ∀ s : Bs, s.length < f → Lib.replaceK [10] [32] (Lib.countFrom [10] f s) s = s.map fun b => if b == 10 then 32 else b := by
  induction f with
  | zero => intro s h; omega
  | succ f ih =>
    intro s h
    unfold Lib.countFrom
    rcases idx_first 10 s with ⟨h1, h2⟩ | ⟨n, h1, h2, h3, h4⟩
    · rw [index_one, h1, if_pos (by rfl), map_lf h2]
      rfl
    · have hne : ¬ (((n : Nat) : Int) == -1) = true := by simp
      rw [index_one, h1, if_neg hne, Nat.add_comm 1]
      unfold Lib.replaceK
      rw [index_one, h1, if_neg hne]
      show s.take n ++ [32] ++ Lib.replaceK [10] [32] (Lib.countFrom [10] f (s.drop (n + 1))) (s.drop (n + 1)) = _
      rw [ih (s.drop (n + 1)) (by rw [List.length_drop]; omega)]
      have hs : s = s.take n ++ 10 :: s.drop (n + 1) := by
        have e := List.take_append_drop n s
        have e2 : s.drop n = 10 :: s.drop (n + 1) := by
          rw [List.drop_eq_getElem_cons h2] at h4 ⊢
          injection h4 with h4
          rw [h4]
        rw [e2] at e
        exact e.symm
      have hm : (s.take n).map (fun b => if b == 10 then 32 else b) = s.take n := by
        refine map_lf ?_
        intro hx
        have := h3 10 hx
        simp at this
      have hmap := congrArg (List.map fun b => if b == 10 then 32 else b) hs
      rw [hmap, List.map_append, List.map_cons, hm]
      simp
theorem replaceAll_lf (s : Bs) : Lib.replaceAll s [10] [32] = s.map fun b => if b == 10 then 32 else b := by
  unfold Lib.replaceAll Lib.replace Lib.replaceNum
  rw [if_neg (by decide), if_pos (.inl (by decide))]
  exact repl_map _ s (Nat.lt_succ_self _)
theorem replace_any (s : Bs) (m : Int) (w : World) (hs : s.length ≤ 4294967280) (hm : w.cell? ⟨0, 0, none⟩ = some (.int .i64 m)) :
    Calls Tryd.prog 22 #[.string (sv s), .string (sv [10]), .string (sv [32])] w fun e w' => e = .returned (.string (sv (s.map fun b => if b == 10 then 32 else b))) ∧ Mod (fun _ => False) w w' := by
  have hc : Lib.countB (sv s) (sv [10]) ≤ (sv s).size := Lib.countB_le (sv [10]) (by show 1 ≤ 1; decide) _ (sv s) (Nat.le_refl _)
  rw [sv_size] at hc
  have h := Tryd.strings_ReplaceAll (sv s) (sv [10]) (sv [32]) m w (by rw [sv_size]; omega) hm (by show 1 ≤ 1; decide) (by
    rw [sv_size]
    show s.length + Lib.countB (sv s) (sv [10]) * 1 ≤ _
    omega)
  rw [sv_list, sv_list, sv_list, replaceAll_lf] at h
  exact h.mono fun e w' ⟨h1, h2⟩ => ⟨h1, mod_of_below h2⟩
theorem trimLeft_any (l : Bs) (w : World) : Calls Tryd.prog 20 #[.string (sv l), .string (sv [96])] w fun e w' => e = .returned (.string (sv (l.drop (ticks l)))) ∧ w = w' := by
  have h := Tryd.strings_TrimLeft_one (sv l) 96 (by decide) w
  rw [sv_list] at h
  have e : Lib.trimLeftB l 96 = l.drop (ticks l) := by rw [ticks_drop]; rfl
  rw [e] at h
  exact h.mono fun _ _ ⟨h1, h2⟩ => ⟨h1, h2.symm⟩
theorem dw_nil (p : UInt8 → Bool) : ∀ l : Bs, l.dropWhile p = [] ↔ l.all p = true
  | [] => by simp
  | b :: l => by
    rw [List.dropWhile_cons, List.all_cons]
    split
    · rename_i h; rw [dw_nil p l, h]; simp
    · rename_i h; simp [h]
theorem trimB_nil (t : Bs) : Lib.trimB t 32 = [] ↔ t.any (· != 32) = false := by
  have e : t.any (· != 32) = !t.all (· == 32) := by
    rw [List.not_all_eq_any_not]; rfl
  rw [e]
  unfold Lib.trimB Lib.trimLeftB Lib.trimRightB
  constructor
  · intro h
    cases ha : t.all (· == 32) with
    | true => rfl
    | false =>
      exfalso
      have h2 := (dw_nil _ _).1 h
      rw [List.all_reverse] at h2
      have h3 : (t.reverse.dropWhile (· == 32)) = [] := by
        have key : ∀ l : Bs, (l.dropWhile (· == 32)).all (· == 32) = true → l.dropWhile (· == 32) = [] := by
          intro l
          induction l with
          | nil => intro _; rfl
          | cons b l ih =>
            rw [List.dropWhile_cons]
            split
            · exact ih
            · rename_i hb; intro h; rw [List.all_cons] at h; simp [hb] at h
        exact key _ h2
      rw [dw_nil, List.all_reverse, ha] at h3
      cases h3
  · intro h
    have ha : t.all (· == 32) = true := by
      cases hq : t.all (· == 32) with
      | true => rfl
      | false => rw [hq] at h; cases h
    have : t.reverse.dropWhile (· == 32) = [] := (dw_nil _ _).2 (by rw [List.all_reverse]; exact ha)
    rw [this]; rfl
theorem trim_any (t : Bs) (w : World) (hl : t.length ≤ 9223372036854775807) : Calls Tryd.prog 23 #[.string (sv t), .string (sv [32])] w fun e w' => e = .returned (.string (sv (Lib.trimB t 32))) ∧ Dr w w' := by
  have h := Tryd.strings_Trim_one (sv t) 32 (by decide) w (by rw [sv_size]; exact hl)
  rw [sv_list] at h
  refine h.mono fun e w' ⟨h1, h2⟩ => ⟨h1, ?_⟩
  rcases h2 with rfl | rfl
  · exact Dr.refl _
  · exact (Dr.refl _).drew
/-- What Code tells. -/
def codeV (l : Bs) : Value := match codeF l with
  | some (t, r) => .tuple #[.string (sv t), .int .i64 (l.length - r.length : Nat)]
  | none => .tuple #[.string (sv []), .int .i64 0]
/-- How far the search has come. -/
def CodeAt (l : Bs) (k A : Nat) : Prop := close k (l.drop k) = (close k (l.drop A)).map fun p => ((l.drop k).take (A - k) ++ p.1, p.2)
theorem CodeAt.start (l : Bs) (k : Nat) : CodeAt l k k := by
  unfold CodeAt
  rw [Nat.sub_self, List.take_zero, map_id2]
theorem CodeAt.step {l : Bs} {k A j : Nat} (h : CodeAt l k A) (hA : k ≤ A) (h2 : close k (l.drop A) = (close k (l.drop (A + j))).map fun p => ((l.drop A).take j ++ p.1, p.2)) : CodeAt l k (A + j) := by
  unfold CodeAt at h ⊢
  rw [h, h2, Option.map_map]
  congr 1
  funext p
  have e : (l.drop k).take (A + j - k) = (l.drop k).take (A - k) ++ (l.drop A).take j := by
    rw [show A + j - k = (A - k) + j by omega, List.take_add, List.drop_drop, show k + (A - k) = A by omega]
  show ((l.drop k).take (A - k) ++ ((l.drop A).take j ++ p.1), p.2) = _
  rw [e, List.append_assoc]
theorem CodeAt.miss {l : Bs} {k A : Nat} (hk : ticks l = k) (h : CodeAt l k A) (h2 : close k (l.drop A) = none) : codeV l = .tuple #[.string (sv []), .int .i64 0] := by
  have : codeF l = none := by
    unfold CodeAt at h
    unfold codeF
    rw [hk, h, h2]
    split <;> rfl
  unfold codeV
  rw [this]
theorem CodeAt.hit {l : Bs} {k A : Nat} (hk : ticks l = k) (h0 : 0 < k) (h : CodeAt l k A) (hA : k ≤ A) (h2 : ticks (l.drop A) = k) : codeV l = .tuple #[.string (sv (strip ((l.take A).drop k))), .int .i64 (A + k : Nat)] := by
  have hle := ticks_le (l.drop A)
  rw [h2, List.length_drop] at hle
  have : codeF l = some (strip ((l.take A).drop k), l.drop (A + k)) := by
    unfold CodeAt at h
    unfold codeF
    rw [hk, if_neg (by omega), h, close_run h0 h2, List.drop_drop]
    show some (strip ((l.drop k).take (A - k) ++ []), l.drop (A + k)) = _
    rw [List.append_nil, List.drop_take]
  unfold codeV
  rw [this]
  dsimp only
  rw [List.length_drop, show l.length - (l.length - (A + k)) = A + k by omega]
theorem code_zero {l : Bs} (h : ticks l = 0) : codeV l = .tuple #[.string (sv []), .int .i64 0] := by
  have : codeF l = none := by unfold codeF; rw [if_pos h]
  unfold codeV; rw [this]
theorem strip_blank {x t : Bs} (ht : (x.map fun b => if b == 10 then 32 else b) = t) (h : t.any (· != 32) = false) : strip x = t := by
  unfold strip; rw [ht, h]; rfl
theorem strip_cons {x q : Bs} {c z : UInt8} (ht : (x.map fun b => if b == 10 then 32 else b) = c :: q) (h : (c :: q).any (· != 32) = true) (hz : (c :: q)[q.length]? = some z) :
    strip x = if c = 32 ∧ z = 32 then q.dropLast else c :: q := by
  have hl : (c :: q).getLast? = some z := by rw [List.getLast?_eq_getElem?]; exact hz
  unfold strip
  rw [ht, h, hl, List.head?_cons]
  have e : (true && some c == some 32 && some z == some 32) = (c == 32 && z == 32) := by
    rw [Bool.true_and]; rfl
  rw [e]
  by_cases hc : c = 32
  · by_cases hz : z = 32
    · rw [hc, hz]; rfl
    · have : (z == 32) = false := beq_eq_false_iff_ne.2 hz
      rw [this, if_neg (show ¬ (c = 32 ∧ z = 32) from fun h => hz h.2)]; simp
  · have : (c == 32) = false := beq_eq_false_iff_ne.2 hc
    rw [this, if_neg (show ¬ (c = 32 ∧ z = 32) from fun h => hc h.1)]; simp
theorem repl_b {s t : Bs} (ht : (s.map fun b => if b == 10 then 32 else b) = t) (m : Int) (w : World) (hs : s.length ≤ 4294967280) (hm : w.cell? ⟨0, 0, none⟩ = some (.int .i64 m)) :
    Calls Tryd.prog 22 #[.string (sv s), .string (sv [10]), .string (sv [32])] w fun e w' => e = .returned (.string (sv t)) ∧ Mod (fun _ => False) w w' := by
  subst ht; exact replace_any s m w hs hm
theorem tl_b {l r : Bs} (h : l.drop (ticks l) = r) (w : World) : Calls Tryd.prog 20 #[.string (sv l), .string (sv [96])] w fun e w' => e = .returned (.string (sv r)) ∧ w = w' := by
  subst h; exact trimLeft_any l w

set_option maxRecDepth 100000 in
set_option maxHeartbeats 4000000 in
theorem code_any (l : Bs) (m : Int) (w : World) (hl : l.length ≤ 4294967280) (hm : w.cell? ⟨0, 0, none⟩ = some (.int .i64 m)) :
    Calls Tryd.prog 10 #[.string (sv l)] w fun e w' => e = .returned (codeV l) ∧ Mod (fun _ => False) w w' := by
  have HM := Lib.hid hm
  have hsz := sv_size l
  obtain ⟨k, hk⟩ : ∃ k, ticks l = k := ⟨_, rfl⟩
  obtain ⟨r, hr⟩ : ∃ r, l.drop (ticks l) = r := ⟨_, rfl⟩
  have hkl := ticks_le l
  have hrl : r.length + k = l.length := by rw [← hr, List.length_drop]; omega
  have htl := fun w => tl_b hr w
  have hrs := sv_size r
  have hsub : ((l.length : Int)) - (r.length : Int) = (k : Int) := by omega
  clear hm
  by_cases hk0 : k = 0
  · have HF := Lib.hid (code_zero (hk.trans hk0))
    subst hk0
    clear hk hr
    go_enter Tryd.func10, Tryd.ntmps10
    go_wp2_with (fail)
    refine (htl _).mono ?_
    rintro e w1 ⟨rfl, rfl⟩
    go_wp2
    go_ret2
    exact ⟨ret_val (by rw [HF.out]; rfl), Mod.refl _ _⟩
  · have hk0' : ((k : Int) == 0) = false := beq_eq_false_iff_ne.2 (by omega)
    have HK : Hid (ticks l = k) := Lib.hid hk
    have HA0 : Hid (CodeAt l k k) := Lib.hid (CodeAt.start l k)
    clear hk hr
    go_enter Tryd.func10, Tryd.ntmps10
    go_wp2_with (fail)
    refine (htl _).mono ?_
    rintro e w1 ⟨rfl, rfl⟩
    go_wp2
    go_loopw [6] (fun i wr => ∃ A : Nat, i = .int .i64 A ∧ k ≤ A ∧ A ≤ l.length ∧ Hid (CodeAt l k A) ∧ Hid (Mod (fun _ => False) w wr)) (fun i _ => l.length - (intOf i).toNat)
    case atStart => exact ⟨k, rfl, Nat.le_refl _, by omega, HA0, Lib.hid (Mod.refl _ _)⟩
    case round =>
      obtain ⟨A, rfl, hkA, hAl, hAt, hM⟩ := hrel
      by_cases hlt : A < l.length
      · have hq : (A : Int) < (l.length : Int) := by omega
        have hq1 : (A : Int) ≤ (l.length : Int) := by omega
        have t1 := sv_drop l A l.length rfl
        have hix := fun w => idx_any (l.drop A) 96 w
        rcases idx_first 96 (l.drop A) with ⟨h1, h2⟩ | ⟨i, h1, h2, h3, h4⟩
        · rw [h1] at hix
          have HF := Lib.hid (hAt.out.miss HK.out (close_absent k _ h2))
          clear h1 h2 hAt
          go_wp2_with (fail)
          refine (hix _).mono ?_
          rintro e w2 ⟨rfl, rfl⟩
          go_wp2
          go_ret2
          exact ⟨ret_val (by rw [HF.out]; rfl), hM.out⟩
        · rw [h1] at hix
          rw [List.length_drop] at h2
          rw [List.drop_drop] at h4
          have hcl := close_upto k i (l.drop A) h3 (by rw [List.length_drop]; omega)
          rw [List.drop_drop] at hcl
          have hAi := hAt.out.step hkA hcl
          obtain ⟨n, hn⟩ : ∃ n, ticks (l.drop (A + i)) = n := ⟨_, rfl⟩
          have hnl := ticks_le (l.drop (A + i))
          rw [hn, List.length_drop] at hnl
          have hn0 : 0 < n := by
            rw [← hn]
            cases hd : l.drop (A + i) with
            | nil => rw [hd] at h4; cases h4
            | cons c x =>
              rw [hd] at h4
              injection h4 with h4
              subst h4
              unfold ticks; simp [List.takeWhile_cons]
          obtain ⟨z, hz⟩ : ∃ z, (l.drop (A + i)).drop (ticks (l.drop (A + i))) = z := ⟨_, rfl⟩
          have hzl : z.length + n = l.length - (A + i) := by rw [← hz, List.length_drop, List.length_drop, hn]; omega
          have htl2 := fun w => tl_b hz w
          have hzs := sv_size z
          have hds : (sv (l.drop (A + i))).size = l.length - (A + i) := by rw [sv_size, List.length_drop]
          have t2 := sv_drop l (A + i) l.length rfl
          have hq2 : (A : Int) + (i : Int) ≤ (l.length : Int) := by omega
          have hq3 : ((A : Int) + (i : Int)).toNat = A + i := by omega
          have hsub2 : ((l.length - (A + i) : Nat) : Int) - (z.length : Int) = (n : Int) := by omega
          have hq4 : (0 : Int) ≤ (A : Int) + (i : Int) := by omega
          by_cases hnk : n = k
          · have hhit := hAi.hit HK.out (by omega) (by omega) (hn.trans hnk)
            have hne : ((n : Int) != (k : Int)) = false := by rw [hnk]; simp
            obtain ⟨x, hx⟩ : ∃ x, (l.take (A + i)).drop k = x := ⟨_, rfl⟩
            have hxs : (sv l).extract k (A + i) = sv x := by rw [sv_ext, hx]
            obtain ⟨t, ht⟩ : ∃ t, (x.map fun b => if b == 10 then 32 else b) = t := ⟨_, rfl⟩
            have hxl : x.length ≤ 4294967280 := by rw [← hx, List.length_drop, List.length_take]; omega
            have htlen : t.length ≤ 4294967280 := by rw [← ht, List.length_map]; exact hxl
            have hrep := fun w hm => repl_b ht m w hxl hm
            have htr := fun w => trim_any t w (by omega)
            rw [hx] at hhit
            have hq5 : (k : Int) ≤ (A : Int) + (i : Int) := by omega
            have hts := sv_size t
            subst hnk
            clear h1 h2 h3 h4 hcl hAi hn hz hx hxl hn0 hAt
            cases hany : t.any (· != 32) with
            | false =>
              have HF : Hid _ := Lib.hid (hhit.trans (by rw [strip_blank ht hany]))
              have htb : Lib.trimB t 32 = [] := (trimB_nil t).2 hany
              rw [htb] at htr
              have hnil : (sv ([] : Bs)).toList = [] := sv_toList _
              clear hhit hany ht htb
              go_wp2_with (fail)
              refine (hix _).mono ?_
              rintro e w2 ⟨rfl, rfl⟩
              go_wp2_with (fail)
              refine region_calm (by kernel_rfl) (by kernel_rfl) ?_
              repeat (go_big_quiet_step (first | (go_at_call 20; exact calm_eq (htl2 _))))
              refine calm_end (fun w3 hm3 => ?_)
              have HM3 := Lib.hid (hM.out.trans hm3 (fun _ h => h.elim))
              clear hm3 hM
              go_wp2_with (fail)
              refine (hrep _ (mod_cell HM3.out HM.out)).mono ?_
              rintro e w4 ⟨rfl, hm4⟩
              have HM4 := Lib.hid (HM3.out.trans hm4 (fun _ h => h.elim))
              clear hm4 HM3
              go_wp2_with (fail)
              refine (htr _).mono ?_
              rintro e w5 ⟨rfl, hd5⟩
              have HM5 := Lib.hid (HM4.out.trans (hd5.mod (S := fun _ => False)) (fun _ h => h.elim))
              clear hd5 HM4
              go_wp2
              go_ret2
              exact ⟨ret_val (by rw [HF.out]; rfl), HM5.out⟩
            | true =>
              have htb : Lib.trimB t 32 ≠ [] := fun e => by rw [trimB_nil, hany] at e; cases e
              obtain ⟨y, hy⟩ : ∃ y, Lib.trimB t 32 = y := ⟨_, rfl⟩
              rw [hy] at htr htb
              have hyt := sv_toList y
              have hyn : (y == []) = false := beq_eq_false_iff_ne.2 htb
              have hye : y.isEmpty = false := by cases y with | nil => exact absurd rfl htb | cons _ _ => rfl
              cases t with
              | nil => cases hany
              | cons c q =>
                have hts' : (sv (c :: q)).size = q.length + 1 := hts
                have hql : q.length + 1 ≤ 4294967280 := htlen
                have hb0 : ∀ h, (sv (c :: q))[0]'h = c := fun _ => rfl
                obtain ⟨b, hb⟩ : ∃ b, (c :: q)[q.length]? = some b := ⟨(c :: q)[q.length]'(Nat.lt_succ_self _), List.getElem?_eq_getElem _⟩
                have hbz : ∀ h, (sv (c :: q))[q.length]'h = b := fun h => by
                  have e := List.getElem?_eq_getElem (l := c :: q) h
                  rw [hb] at e
                  injection e with e
                  exact e.symm
                have hstrip := strip_cons ht hany hb
                by_cases hc : c = 32
                · by_cases hb32 : b = 32
                  · rw [if_pos ⟨hc, hb32⟩] at hstrip
                    have HF : Hid _ := Lib.hid (hhit.trans (by rw [hstrip]))
                    have e1 : ((c.toNat : Int) == 32) = true := by rw [hc]; rfl
                    have e2 : ((b.toNat : Int) == 32) = true := by rw [hb32]; rfl
                    have hq1' : (1 : Int) ≤ (q.length : Int) := by
                      cases q with
                      | cons _ _ => simp only [List.length_cons]; omega
                      | nil =>
                        exfalso
                        simp [hc] at hany
                    have t3 : (sv (c :: q)).extract 1 q.length = sv q.dropLast := by
                      rw [sv_ext, List.dropLast_eq_take]
                      congr 1
                      cases hl : q.length with
                      | zero => rw [hl] at hq1'; omega
                      | succ j => simp
                    clear hhit hany ht htb hts htlen hb hstrip hc hb32 hy
                    go_wp2_with (fail)
                    refine (hix _).mono ?_
                    rintro e w2 ⟨rfl, rfl⟩
                    go_wp2_with (fail)
                    refine region_calm (by kernel_rfl) (by kernel_rfl) ?_
                    repeat (go_big_quiet_step (first | (go_at_call 20; exact calm_eq (htl2 _))))
                    refine calm_end (fun w3 hm3 => ?_)
                    have HM3 := Lib.hid (hM.out.trans hm3 (fun _ h => h.elim))
                    clear hm3 hM
                    go_wp2_with (fail)
                    refine (hrep _ (mod_cell HM3.out HM.out)).mono ?_
                    rintro e w4 ⟨rfl, hm4⟩
                    have HM4 := Lib.hid (HM3.out.trans hm4 (fun _ h => h.elim))
                    clear hm4 HM3
                    go_wp2_with (fail)
                    refine (htr _).mono ?_
                    rintro e w5 ⟨rfl, hd5⟩
                    have HM5 := Lib.hid (HM4.out.trans (hd5.mod (S := fun _ => False)) (fun _ h => h.elim))
                    clear hd5 HM4
                    go_wp2
                    go_ret2
                    exact ⟨ret_val (by rw [HF.out]; rfl), HM5.out⟩
                  · rw [if_neg (show ¬ (c = 32 ∧ b = 32) from fun h => hb32 h.2)] at hstrip
                    have HF : Hid _ := Lib.hid (hhit.trans (by rw [hstrip]))
                    have e1 : ((c.toNat : Int) == 32) = true := by rw [hc]; rfl
                    have e2 : ((b.toNat : Int) == 32) = false := beq_eq_false_iff_ne.2 (fun e => hb32 (UInt8.toNat_inj.1 (by show b.toNat = 32; omega)))
                    clear hhit hany ht htb hts htlen hb hstrip hc hb32 hy
                    go_wp2_with (fail)
                    refine (hix _).mono ?_
                    rintro e w2 ⟨rfl, rfl⟩
                    go_wp2_with (fail)
                    refine region_calm (by kernel_rfl) (by kernel_rfl) ?_
                    repeat (go_big_quiet_step (first | (go_at_call 20; exact calm_eq (htl2 _))))
                    refine calm_end (fun w3 hm3 => ?_)
                    have HM3 := Lib.hid (hM.out.trans hm3 (fun _ h => h.elim))
                    clear hm3 hM
                    go_wp2_with (fail)
                    refine (hrep _ (mod_cell HM3.out HM.out)).mono ?_
                    rintro e w4 ⟨rfl, hm4⟩
                    have HM4 := Lib.hid (HM3.out.trans hm4 (fun _ h => h.elim))
                    clear hm4 HM3
                    go_wp2_with (fail)
                    refine (htr _).mono ?_
                    rintro e w5 ⟨rfl, hd5⟩
                    have HM5 := Lib.hid (HM4.out.trans (hd5.mod (S := fun _ => False)) (fun _ h => h.elim))
                    clear hd5 HM4
                    go_wp2
                    go_ret2
                    exact ⟨ret_val (by rw [HF.out]; rfl), HM5.out⟩
                · rw [if_neg (show ¬ (c = 32 ∧ b = 32) from fun h => hc h.1)] at hstrip
                  have HF : Hid _ := Lib.hid (hhit.trans (by rw [hstrip]))
                  have e1 : ((c.toNat : Int) == 32) = false := beq_eq_false_iff_ne.2 (fun e => hc (UInt8.toNat_inj.1 (by show c.toNat = 32; omega)))
                  clear hhit hany ht htb hts htlen hb hstrip hc hy
                  go_wp2_with (fail)
                  refine (hix _).mono ?_
                  rintro e w2 ⟨rfl, rfl⟩
                  go_wp2_with (fail)
                  refine region_calm (by kernel_rfl) (by kernel_rfl) ?_
                  repeat (go_big_quiet_step (first | (go_at_call 20; exact calm_eq (htl2 _))))
                  refine calm_end (fun w3 hm3 => ?_)
                  have HM3 := Lib.hid (hM.out.trans hm3 (fun _ h => h.elim))
                  clear hm3 hM
                  go_wp2_with (fail)
                  refine (hrep _ (mod_cell HM3.out HM.out)).mono ?_
                  rintro e w4 ⟨rfl, hm4⟩
                  have HM4 := Lib.hid (HM3.out.trans hm4 (fun _ h => h.elim))
                  clear hm4 HM3
                  go_wp2_with (fail)
                  refine (htr _).mono ?_
                  rintro e w5 ⟨rfl, hd5⟩
                  have HM5 := Lib.hid (HM4.out.trans (hd5.mod (S := fun _ => False)) (fun _ h => h.elim))
                  clear hd5 HM4
                  go_wp2
                  go_ret2
                  exact ⟨ret_val (by rw [HF.out]; rfl), HM5.out⟩
          · have hne : ((n : Int) != (k : Int)) = true := bne_iff_ne.2 (by omega)
            have hsk := close_skip (k := k) (l := l.drop (A + i)) (by omega) (by omega)
            rw [hn, List.drop_drop] at hsk
            have hAn := Lib.hid (hAi.step (by omega) hsk)
            clear h1 h2 h3 h4 hcl hAi hn hz hAt hsk
            go_wp2_with (fail)
            refine (hix _).mono ?_
            rintro e w2 ⟨rfl, rfl⟩
            go_wp2_with (fail)
            refine region_calm (by kernel_rfl) (by kernel_rfl) ?_
            repeat (go_big_quiet_step (first | (go_at_call 20; exact calm_eq (htl2 _))))
            refine calm_end (fun w3 hm3 => ?_)
            have HM3 := Lib.hid (hM.out.trans hm3 (fun _ h => h.elim))
            clear hm3 hM
            go_wp2
            go_roundw
            case rel => exact ⟨A + i + n, by go_num, by omega, by omega, hAn, HM3⟩
            case measure => simp [intOf]; omega
      · have hAe : A = l.length := by omega
        have HF := Lib.hid (hAt.out.miss HK.out (by rw [hAe, List.drop_length, close]))
        clear hAt hAe
        go_wp2
        go_ret2
        exact ⟨ret_val (by rw [HF.out]; rfl), hM.out⟩
end Go.Proofs.YtkmidilaabgooaaDoor
