/-
  Tag.
-/
import Derived.Test.YtkmidilaabgooaaDoorCe
namespace Go.Proofs.YtkmidilaabgooaaDoor
open Go.RowKit Mem
set_option linter.unusedVariables false
set_option linter.unusedSimpArgs false

/-- A scan of the call's own. -/
structure Own (w w' : World) (g : Nat) (l : Bs) : Prop where
  s : Scn w' g l
  m : Mod (fun _ => False) w w'
  lo : w.heap.size ≤ g
theorem Own.step {w w' w'' : World} {g : Nat} {l m : Bs} (h : Own w w' g l) (k : Did w' w'' g m) : Own w w'' g m :=
  ⟨k.s, h.m.trans k.m (fun i hi => .inr (by have := h.lo; omega)), h.lo⟩
theorem Own.new (w : World) (l : Bs) : Own w (w.alloc (.cells #[.string (sv l)] 49)) w.heap.size l := ⟨Scn.new _ _, (Mod.refl _ _).alloc _, Nat.le_refl _⟩
structure OwnA (w w' : World) (g : Nat) (m : Bs) (a : Nat) (l : Bs) : Prop where
  o : Own w w' g m
  sa : Scn w' a l
  ne : a ≠ g
theorem OwnA.step {w w' w'' : World} {g a : Nat} {m m' l : Bs} (h : OwnA w w' g m a l) (k : Did w' w'' g m') : OwnA w w'' g m' a l := ⟨h.o.step k, h.sa.mod k.m (fun e => h.ne e), h.ne⟩
theorem OwnA.new {w w' : World} {g : Nat} {m : Bs} (h : Own w w' g m) : OwnA w (w'.alloc (.cells #[.string (sv m)] 49)) g m w'.heap.size m :=
  ⟨⟨h.s.mod ((Mod.refl (fun _ => False) w').alloc _) (fun h => h), h.m.alloc _, h.lo⟩, Scn.new _ _, by have := h.s.lt; omega⟩
theorem OwnA.back {w w' : World} {g a : Nat} {m l : Bs} (h : OwnA w w' g m a l) : Own w (w'.setCell ⟨g, 0, none⟩ (.string (sv l))) g l :=
  ⟨h.o.s.set, h.o.m.setCell (.inr h.o.lo) _, h.o.lo⟩
theorem name_b {g : Nat} {l : Bs} {w : World} {b : Bool} {m : Bs} (hS : Scn w g l) (hl : l.length ≤ 9223372036854775807) (hb : (nameF l).isSome = b) (hm : (nameF l).getD l = m) :
    Calls Tryd.prog 39 #[.pointer (some ⟨g, 0, none⟩)] w fun e w' => e = .returned (.bool b) ∧ Did w w' g m := by
  subst hb hm; exact name_any g l w hS hl
theorem value_some {g : Nat} {l r : Bs} {w : World} (hS : Scn w g l) (hl : l.length ≤ 4294967280) (h : valF l = some r) :
    Calls Tryd.prog 41 #[.pointer (some ⟨g, 0, none⟩)] w fun e w' => e = .returned (.bool true) ∧ Did w w' g r := by
  refine (value_any g l w hS hl).mono fun e w' h2 => ?_
  unfold ValPost at h2; rw [h] at h2; exact h2
theorem value_none {g : Nat} {l : Bs} {w : World} (hS : Scn w g l) (hl : l.length ≤ 4294967280) (h : valF l = none) :
    Calls Tryd.prog 41 #[.pointer (some ⟨g, 0, none⟩)] w fun e w' => e = .returned (.bool false) ∧ ∃ m, Did w w' g m := by
  refine (value_any g l w hS hl).mono fun e w' h2 => ?_
  unfold ValPost at h2; rw [h] at h2; exact h2

theorem attrs_stop0 {l : Bs} (h : gapF l = []) : attrs l = some l := by
  rw [attrs, h]
theorem attrs_stop {l g : Bs} {c : UInt8} (h : gapF l = c :: g) (hc : gapN l = 0 ∨ isB true false [95, 58] c = false) : attrs l = some l := by
  rw [attrs, h]
  dsimp only
  rw [if_neg]
  rw [Bool.and_eq_true, decide_eq_true_eq]
  rintro ⟨h1, h2⟩
  rcases hc with hc | hc
  · unfold gapN at hc; rw [h] at hc; omega
  · rw [hc] at h2; cases h2
theorem attrs_go {l g v : Bs} {c : UInt8} (h : gapF l = c :: g) (h1 : gapN l ≠ 0) (h2 : isB true false [95, 58] c = true) (hv : valF ((c :: g).dropWhile attrB) = some v) : attrs l = attrs v ∧ v.length < l.length := by
  have hlt : (c :: g).length < l.length := by unfold gapN at h1; rw [h] at h1; omega
  have hvl : v.length < l.length := Nat.lt_of_le_of_lt ((val_suffix hv).length_le) (Nat.lt_of_le_of_lt (dw_suffix attrB (c :: g)).length_le hlt)
  refine ⟨?_, hvl⟩
  rw [attrs, h]
  dsimp only
  rw [if_pos (by rw [decide_eq_true hlt, h2]; rfl), hv]
  dsimp only
  rw [dif_pos hvl]
theorem attrs_bad {l g : Bs} {c : UInt8} (h : gapF l = c :: g) (h1 : gapN l ≠ 0) (h2 : isB true false [95, 58] c = true) (hv : valF ((c :: g).dropWhile attrB) = none) : attrs l = none := by
  have hlt : (c :: g).length < l.length := by unfold gapN at h1; rw [h] at h1; omega
  rw [attrs, h]
  dsimp only
  rw [if_pos (by rw [decide_eq_true hlt, h2]; rfl), hv]
/-- What Tag tells. -/
def tagN (l : Bs) : Nat := took l (tagF l)
theorem tag_no {l : Bs} (h : ([60] : Bs).isPrefixOf l = false) : tagF l = none := by
  cases l with
  | nil => rfl
  | cons c l =>
    rw [pre_cons] at h
    have : (c == 60) = false := by rw [beq_eq_false_iff_ne] at h ⊢; exact fun e => h e.symm
    unfold tagF tagB
    dsimp only
    rw [this]; rfl
theorem tag_A {r : Bs} : tagF (60 :: 47 :: r) = match nameF r with | none => none | some m => endF (gapF m) := by
  have : tagB (60 :: 47 :: r) = (nameF r).map gapF := rfl
  unfold tagF
  rw [this]
  cases nameF r <;> rfl
theorem tag_B {l : Bs} (h : ([47] : Bs).isPrefixOf l = false) : tagF (60 :: l) = match nameF l with | none => none | some m => (match attrs m with | none => none | some q => endF (slash (gapF q))) := by
  cases l with
  | nil => rfl
  | cons d r =>
    rw [pre_cons] at h
    have hd : (d == 47) = false := by rw [beq_eq_false_iff_ne] at h ⊢; exact fun e => h e.symm
    have : tagB (60 :: d :: r) = (match nameF (d :: r) with | none => none | some r => (attrs r).map fun r => slash (gapF r)) := by
      show (if (60 == 60 : Bool) then (if d == 47 then (nameF r).map gapF else match nameF (d :: r) with
        | none => none
        | some r => (attrs r).map fun r => slash (gapF r)) else none) = _
      rw [if_pos (by rfl), hd]; rfl
    unfold tagF
    rw [this]
    cases nameF (d :: r) with
    | none => rfl
    | some m => dsimp only; cases attrs m <;> rfl
theorem end_no {m : Bs} (h : ([62] : Bs).isPrefixOf m = false) : endF m = none := by
  cases m with
  | nil => rfl
  | cons c l =>
    rw [pre_cons] at h
    have : (c == 62) = false := by rw [beq_eq_false_iff_ne] at h ⊢; exact fun e => h e.symm
    unfold endF
    dsimp only
    rw [this]; rfl
theorem slash_no {m : Bs} (h : ([47] : Bs).isPrefixOf m = false) : slash m = m := by
  cases m with
  | nil => rfl
  | cons c l =>
    rw [pre_cons] at h
    have : (c == 47) = false := by rw [beq_eq_false_iff_ne] at h ⊢; exact fun e => h e.symm
    unfold slash
    dsimp only
    rw [this]; rfl
set_option maxRecDepth 100000 in
set_option maxHeartbeats 4000000 in
theorem tag_any (l : Bs) (w : World) (hl : l.length ≤ 4294967280) :
    Calls Tryd.prog 14 #[.string (sv l)] w fun e w' => e = .returned (.int .i64 (tagN l : Nat)) ∧ Mod (fun _ => False) w w' := by
  have HN := Lib.hid (Own.new w l)
  have hsz := sv_size l
  rcases hp : ([60, 47] : Bs).isPrefixOf l with _ | _
  · have HP := Lib.hid hp
    have hmp : Hid ((if ([60, 47] : Bs).isPrefixOf l then l.drop ([60, 47] : Bs).length else l) = l) := Lib.hid (by rw [hp]; rfl)
    rcases hq : ([60] : Bs).isPrefixOf l with _ | _
    · have HQ := Lib.hid hq
      have hmq : Hid ((if ([60] : Bs).isPrefixOf l then l.drop ([60] : Bs).length else l) = l) := Lib.hid (by rw [hq]; rfl)
      have HR : Hid (tagN l = 0) := Lib.hid (by unfold tagN; rw [tag_no hq]; rfl)
      clear hp hq
      go_enter Tryd.func14, Tryd.ntmps14
      go_wp2_with (fail)
      refine (text_b (t := [60, 47]) HN.out.s HP.out hmp.out).mono ?_
      rintro e w1 ⟨rfl, hD⟩
      have HO := Lib.hid (HN.out.step hD)
      clear hD HN
      go_wp2_with (fail)
      refine (text_b (t := [60]) HO.out.s HQ.out hmq.out).mono ?_
      rintro e w2 ⟨rfl, hD⟩
      have HO2 := Lib.hid (HO.out.step hD)
      clear hD HO
      go_wp2
      go_ret
      exact ⟨ret_int (by rw [HR.out]; rfl), HO2.out.m⟩
    · have hsp := pre_split hq
      obtain ⟨r, hr⟩ : ∃ r, l.drop ([60] : Bs).length = r := ⟨_, rfl⟩
      rw [hr] at hsp
      have hsp' : l = 60 :: r := hsp
      have hrl : l.length = r.length + 1 := by rw [hsp']; rfl
      have HQ := Lib.hid hq
      have hmq : Hid ((if ([60] : Bs).isPrefixOf l then l.drop ([60] : Bs).length else l) = r) := Lib.hid (by rw [hq, if_pos rfl, hr])
      have HB := Lib.hid (tag_B (l := r) (by rw [hsp'] at hp; simpa [List.isPrefixOf] using hp))
      have HT0 : Hid (tagN l = took l (tagF (60 :: r))) := Lib.hid (by unfold tagN; rw [← hsp'])
      have HRL : Hid (r.length ≤ 9223372036854775807) := Lib.hid (by omega)
      clear hp hq hsp hsp' hr
      rcases hn : nameF r with _ | m
      · have HR : Hid (tagN l = 0) := Lib.hid (by rw [HT0.out, HB.out, hn]; rfl)
        have HNs : Hid ((nameF r).isSome = false ∧ (nameF r).getD r = r) := Lib.hid (by rw [hn]; exact ⟨rfl, rfl⟩)
        clear hn
        go_enter Tryd.func14, Tryd.ntmps14
        go_wp2_with (fail)
        refine (text_b (t := [60, 47]) HN.out.s HP.out hmp.out).mono ?_
        rintro e w1 ⟨rfl, hD⟩
        have HO := Lib.hid (HN.out.step hD)
        clear hD HN
        go_wp2_with (fail)
        refine (text_b (t := [60]) HO.out.s HQ.out hmq.out).mono ?_
        rintro e w2 ⟨rfl, hD⟩
        have HO2 := Lib.hid (HO.out.step hD)
        clear hD HO
        go_wp2_with (fail)
        refine (name_b HO2.out.s HRL.out HNs.out.1 HNs.out.2).mono ?_
        rintro e w3 ⟨rfl, hD⟩
        have HO3 := Lib.hid (HO2.out.step hD)
        clear hD HO2
        go_wp2
        go_ret
        exact ⟨ret_int (by rw [HR.out]; rfl), HO3.out.m⟩
      · have HT1 : Hid (tagN l = took l (match attrs m with | none => none | some q => endF (slash (gapF q)))) := Lib.hid (by rw [HT0.out, HB.out, hn])
        have HNs : Hid ((nameF r).isSome = true ∧ (nameF r).getD r = m) := Lib.hid (by rw [hn]; exact ⟨rfl, rfl⟩)
        have hml : m.length ≤ r.length := (name_suffix hn).length_le
        clear hn HT0 HB
        go_enter Tryd.func14, Tryd.ntmps14
        go_wp2_with (fail)
        refine (text_b (t := [60, 47]) HN.out.s HP.out hmp.out).mono ?_
        rintro e w1 ⟨rfl, hD⟩
        have HO := Lib.hid (HN.out.step hD)
        clear hD HN
        go_wp2_with (fail)
        refine (text_b (t := [60]) HO.out.s HQ.out hmq.out).mono ?_
        rintro e w2 ⟨rfl, hD⟩
        have HO2 := Lib.hid (HO.out.step hD)
        clear hD HO
        go_wp2_with (fail)
        refine (name_b HO2.out.s HRL.out HNs.out.1 HNs.out.2).mono ?_
        rintro e w3 ⟨rfl, hD⟩
        have HO3 := Lib.hid (HO2.out.step hD)
        clear hD HO2
        go_wp2
        go_loopg [4] (m.length + 1) (fun f _ wx => ∃ k : Bs, k.length < f ∧ Hid (Own w wx w.heap.size k) ∧ Hid (attrs m = attrs k) ∧ k.length ≤ m.length)
        case atStart => exact ⟨m, by omega, HO3, Lib.hid rfl, Nat.le_refl _⟩
        case round =>
          obtain ⟨k, hkf, hO, hAt, hkm⟩ := hrel
          have HA := Lib.hid (OwnA.new hO.out)
          have hcw := hO.out.s.cell
          have hkl : k.length ≤ 9223372036854775807 := by omega
          have HKL := Lib.hid hkl
          have hgl := (gap_suffix k).length_le
          obtain ⟨n, hn⟩ : ∃ n, gapN k = n := ⟨_, rfl⟩
          obtain ⟨p, hp⟩ : ∃ p, gapF k = p := ⟨_, rfl⟩
          rw [hp] at hgl
          have hnl : n ≤ k.length := by rw [← hn]; exact Nat.sub_le _ _
          have HG : Hid (gapN k = n ∧ gapF k = p) := Lib.hid ⟨hn, hp⟩
          have HLm : Hid (k.length ≤ l.length) := Lib.hid (by omega)
          have hps := sv_size p
          have hpt := sv_toList p
          by_cases hn0 : n = 0
          · subst hn0
            have HS : Hid (attrs k = some k) := Lib.hid (by
              cases p with
              | nil => exact attrs_stop0 hp
              | cons c p => exact attrs_stop hp (.inl hn))
            have HT : Hid (tagN l = took l (endF (slash (gapF k)))) := Lib.hid (by rw [HT1.out, hAt.out, HS.out])
            clear hn hp HT1 hAt
            go_wp2_with (fail)
            refine (gap_n HA.out.o.s HKL.out HG.out.1 HG.out.2).mono ?_
            rintro e w4 ⟨rfl, hD⟩
            have HA4 := Lib.hid (HA.out.step hD)
            clear hD HA
            have hc4 := HA4.out.o.s.cell
            have hf4 := HA4.out.o.s.frozen
            have hc5 := HA4.out.sa.cell
            have HB4 := Lib.hid HA4.out.back

            have hgl := (gap_suffix k).length_le
            have hml := HLm.out
            have HL1 : Hid ((k).length ≤ 9223372036854775807) := Lib.hid (by omega)
            obtain ⟨q, hq⟩ : ∃ q, gapF k = q := ⟨_, rfl⟩
            rw [hq] at HT hgl
            have HQ := Lib.hid hq
            clear hq
            rcases hs : ([47] : Bs).isPrefixOf q with _ | _
            · have HS := Lib.hid hs
              have hmq : Hid ((if ([47] : Bs).isPrefixOf q then q.drop ([47] : Bs).length else q) = q) := Lib.hid (by rw [hs]; rfl)
              have HT2 : Hid (tagN l = took l (endF q)) := Lib.hid (by rw [HT.out, slash_no hs])
              have HLM : Hid (q.length ≤ l.length) := Lib.hid (by omega)
              clear hs hgl hml HT
              go_wp2_with (fail)
              refine (gap_n HB4.out.s HL1.out rfl HQ.out).mono ?_
              rintro e wa ⟨rfl, hDa⟩
              have HOa := Lib.hid (HB4.out.step hDa)
              clear hDa
              go_wp2_with (fail)
              refine (text_b (t := [47]) HOa.out.s HS.out hmq.out).mono ?_
              rintro e wb ⟨rfl, hDb⟩
              have HOb := Lib.hid (HOa.out.step hDb)
              clear hDb HOa
              rcases he : ([62] : Bs).isPrefixOf q with _ | _
              · have HE := Lib.hid he
                have hme : Hid ((if ([62] : Bs).isPrefixOf q then (q).drop ([62] : Bs).length else q) = q) := Lib.hid (by rw [he]; rfl)
                have HR : Hid (tagN l = 0) := Lib.hid (by rw [HT2.out, end_no he]; rfl)
                clear he
                go_wp2_with (fail)
                refine (text_b (t := [62]) HOb.out.s HE.out hme.out).mono ?_
                rintro e we ⟨rfl, hDe⟩
                have HOe := Lib.hid (HOb.out.step hDe)
                clear hDe
                go_wp2
                go_ret
                exact ⟨ret_int (by rw [HR.out]; rfl), HOe.out.m⟩
              · have hsp := pre_split he
                obtain ⟨z, hz⟩ : ∃ z, (q).drop ([62] : Bs).length = z := ⟨_, rfl⟩
                rw [hz] at hsp
                have hsp' : q = 62 :: z := hsp
                have HE := Lib.hid he
                have hme : Hid ((if ([62] : Bs).isPrefixOf q then (q).drop ([62] : Bs).length else q) = z) := Lib.hid (by rw [he, if_pos rfl, hz])
                have HR : Hid (tagN l = l.length - z.length) := Lib.hid (by rw [HT2.out, hsp']; rfl)
                have hzl : z.length ≤ l.length := by have h1 := HLM.out; have h2 : (q).length = z.length + 1 := by rw [hsp']; rfl
                                                     omega
                have hzs := sv_size z
                clear he hsp hsp' hz
                go_wp2_with (fail)
                refine (text_b (t := [62]) HOb.out.s HE.out hme.out).mono ?_
                rintro e we ⟨rfl, hDe⟩
                have HOe := Lib.hid (HOb.out.step hDe)
                clear hDe
                have hce := HOe.out.s.cell
                go_wp2
                go_ret
                exact ⟨ret_int (by rw [HR.out]; omega), HOe.out.m⟩
            · have hsp := pre_split hs
              obtain ⟨y, hy⟩ : ∃ y, q.drop ([47] : Bs).length = y := ⟨_, rfl⟩
              rw [hy] at hsp
              have hsp' : q = 47 :: y := hsp
              have HS := Lib.hid hs
              have hmq : Hid ((if ([47] : Bs).isPrefixOf q then q.drop ([47] : Bs).length else q) = y) := Lib.hid (by rw [hs, if_pos rfl, hy])
              have HT2 : Hid (tagN l = took l (endF y)) := Lib.hid (by rw [HT.out, hsp']; rfl)
              have HLM : Hid (y.length ≤ l.length) := Lib.hid (by
                have h2 : q.length = y.length + 1 := by rw [hsp']; rfl
                omega)
              clear hs hgl hml HT hsp hsp' hy
              go_wp2_with (fail)
              refine (gap_n HB4.out.s HL1.out rfl HQ.out).mono ?_
              rintro e wa ⟨rfl, hDa⟩
              have HOa := Lib.hid (HB4.out.step hDa)
              clear hDa
              go_wp2_with (fail)
              refine (text_b (t := [47]) HOa.out.s HS.out hmq.out).mono ?_
              rintro e wb ⟨rfl, hDb⟩
              have HOb := Lib.hid (HOa.out.step hDb)
              clear hDb HOa
              rcases he : ([62] : Bs).isPrefixOf y with _ | _
              · have HE := Lib.hid he
                have hme : Hid ((if ([62] : Bs).isPrefixOf y then (y).drop ([62] : Bs).length else y) = y) := Lib.hid (by rw [he]; rfl)
                have HR : Hid (tagN l = 0) := Lib.hid (by rw [HT2.out, end_no he]; rfl)
                clear he
                go_wp2_with (fail)
                refine (text_b (t := [62]) HOb.out.s HE.out hme.out).mono ?_
                rintro e we ⟨rfl, hDe⟩
                have HOe := Lib.hid (HOb.out.step hDe)
                clear hDe
                go_wp2
                go_ret
                exact ⟨ret_int (by rw [HR.out]; rfl), HOe.out.m⟩
              · have hsp := pre_split he
                obtain ⟨z, hz⟩ : ∃ z, (y).drop ([62] : Bs).length = z := ⟨_, rfl⟩
                rw [hz] at hsp
                have hsp' : y = 62 :: z := hsp
                have HE := Lib.hid he
                have hme : Hid ((if ([62] : Bs).isPrefixOf y then (y).drop ([62] : Bs).length else y) = z) := Lib.hid (by rw [he, if_pos rfl, hz])
                have HR : Hid (tagN l = l.length - z.length) := Lib.hid (by rw [HT2.out, hsp']; rfl)
                have hzl : z.length ≤ l.length := by have h1 := HLM.out; have h2 : (y).length = z.length + 1 := by rw [hsp']; rfl
                                                     omega
                have hzs := sv_size z
                clear he hsp hsp' hz
                go_wp2_with (fail)
                refine (text_b (t := [62]) HOb.out.s HE.out hme.out).mono ?_
                rintro e we ⟨rfl, hDe⟩
                have HOe := Lib.hid (HOb.out.step hDe)
                clear hDe
                have hce := HOe.out.s.cell
                go_wp2
                go_ret
                exact ⟨ret_int (by rw [HR.out]; omega), HOe.out.m⟩
          · have hn0' : ((n : Int) == 0) = false := beq_eq_false_iff_ne.2 (by omega)
            cases p with
            | nil =>
              have HS : Hid (attrs k = some k) := Lib.hid (attrs_stop0 hp)
              have HT : Hid (tagN l = took l (endF (slash (gapF k)))) := Lib.hid (by rw [HT1.out, hAt.out, HS.out])
              clear hn hp HT1 hAt
              go_wp2_with (fail)
              refine (gap_n HA.out.o.s HKL.out HG.out.1 HG.out.2).mono ?_
              rintro e w4 ⟨rfl, hD⟩
              have HA4 := Lib.hid (HA.out.step hD)
              clear hD HA
              have hc4 := HA4.out.o.s.cell
              have hf4 := HA4.out.o.s.frozen
              have hc5 := HA4.out.sa.cell
              have HB4 := Lib.hid HA4.out.back

              have hgl := (gap_suffix k).length_le
              have hml := HLm.out
              have HL1 : Hid ((k).length ≤ 9223372036854775807) := Lib.hid (by omega)
              obtain ⟨q, hq⟩ : ∃ q, gapF k = q := ⟨_, rfl⟩
              rw [hq] at HT hgl
              have HQ := Lib.hid hq
              clear hq
              rcases hs : ([47] : Bs).isPrefixOf q with _ | _
              · have HS := Lib.hid hs
                have hmq : Hid ((if ([47] : Bs).isPrefixOf q then q.drop ([47] : Bs).length else q) = q) := Lib.hid (by rw [hs]; rfl)
                have HT2 : Hid (tagN l = took l (endF q)) := Lib.hid (by rw [HT.out, slash_no hs])
                have HLM : Hid (q.length ≤ l.length) := Lib.hid (by omega)
                clear hs hgl hml HT
                go_wp2_with (fail)
                refine (gap_n HB4.out.s HL1.out rfl HQ.out).mono ?_
                rintro e wa ⟨rfl, hDa⟩
                have HOa := Lib.hid (HB4.out.step hDa)
                clear hDa
                go_wp2_with (fail)
                refine (text_b (t := [47]) HOa.out.s HS.out hmq.out).mono ?_
                rintro e wb ⟨rfl, hDb⟩
                have HOb := Lib.hid (HOa.out.step hDb)
                clear hDb HOa
                rcases he : ([62] : Bs).isPrefixOf q with _ | _
                · have HE := Lib.hid he
                  have hme : Hid ((if ([62] : Bs).isPrefixOf q then (q).drop ([62] : Bs).length else q) = q) := Lib.hid (by rw [he]; rfl)
                  have HR : Hid (tagN l = 0) := Lib.hid (by rw [HT2.out, end_no he]; rfl)
                  clear he
                  go_wp2_with (fail)
                  refine (text_b (t := [62]) HOb.out.s HE.out hme.out).mono ?_
                  rintro e we ⟨rfl, hDe⟩
                  have HOe := Lib.hid (HOb.out.step hDe)
                  clear hDe
                  go_wp2
                  go_ret
                  exact ⟨ret_int (by rw [HR.out]; rfl), HOe.out.m⟩
                · have hsp := pre_split he
                  obtain ⟨z, hz⟩ : ∃ z, (q).drop ([62] : Bs).length = z := ⟨_, rfl⟩
                  rw [hz] at hsp
                  have hsp' : q = 62 :: z := hsp
                  have HE := Lib.hid he
                  have hme : Hid ((if ([62] : Bs).isPrefixOf q then (q).drop ([62] : Bs).length else q) = z) := Lib.hid (by rw [he, if_pos rfl, hz])
                  have HR : Hid (tagN l = l.length - z.length) := Lib.hid (by rw [HT2.out, hsp']; rfl)
                  have hzl : z.length ≤ l.length := by have h1 := HLM.out; have h2 : (q).length = z.length + 1 := by rw [hsp']; rfl
                                                       omega
                  have hzs := sv_size z
                  clear he hsp hsp' hz
                  go_wp2_with (fail)
                  refine (text_b (t := [62]) HOb.out.s HE.out hme.out).mono ?_
                  rintro e we ⟨rfl, hDe⟩
                  have HOe := Lib.hid (HOb.out.step hDe)
                  clear hDe
                  have hce := HOe.out.s.cell
                  go_wp2
                  go_ret
                  exact ⟨ret_int (by rw [HR.out]; omega), HOe.out.m⟩
              · have hsp := pre_split hs
                obtain ⟨y, hy⟩ : ∃ y, q.drop ([47] : Bs).length = y := ⟨_, rfl⟩
                rw [hy] at hsp
                have hsp' : q = 47 :: y := hsp
                have HS := Lib.hid hs
                have hmq : Hid ((if ([47] : Bs).isPrefixOf q then q.drop ([47] : Bs).length else q) = y) := Lib.hid (by rw [hs, if_pos rfl, hy])
                have HT2 : Hid (tagN l = took l (endF y)) := Lib.hid (by rw [HT.out, hsp']; rfl)
                have HLM : Hid (y.length ≤ l.length) := Lib.hid (by
                  have h2 : q.length = y.length + 1 := by rw [hsp']; rfl
                  omega)
                clear hs hgl hml HT hsp hsp' hy
                go_wp2_with (fail)
                refine (gap_n HB4.out.s HL1.out rfl HQ.out).mono ?_
                rintro e wa ⟨rfl, hDa⟩
                have HOa := Lib.hid (HB4.out.step hDa)
                clear hDa
                go_wp2_with (fail)
                refine (text_b (t := [47]) HOa.out.s HS.out hmq.out).mono ?_
                rintro e wb ⟨rfl, hDb⟩
                have HOb := Lib.hid (HOa.out.step hDb)
                clear hDb HOa
                rcases he : ([62] : Bs).isPrefixOf y with _ | _
                · have HE := Lib.hid he
                  have hme : Hid ((if ([62] : Bs).isPrefixOf y then (y).drop ([62] : Bs).length else y) = y) := Lib.hid (by rw [he]; rfl)
                  have HR : Hid (tagN l = 0) := Lib.hid (by rw [HT2.out, end_no he]; rfl)
                  clear he
                  go_wp2_with (fail)
                  refine (text_b (t := [62]) HOb.out.s HE.out hme.out).mono ?_
                  rintro e we ⟨rfl, hDe⟩
                  have HOe := Lib.hid (HOb.out.step hDe)
                  clear hDe
                  go_wp2
                  go_ret
                  exact ⟨ret_int (by rw [HR.out]; rfl), HOe.out.m⟩
                · have hsp := pre_split he
                  obtain ⟨z, hz⟩ : ∃ z, (y).drop ([62] : Bs).length = z := ⟨_, rfl⟩
                  rw [hz] at hsp
                  have hsp' : y = 62 :: z := hsp
                  have HE := Lib.hid he
                  have hme : Hid ((if ([62] : Bs).isPrefixOf y then (y).drop ([62] : Bs).length else y) = z) := Lib.hid (by rw [he, if_pos rfl, hz])
                  have HR : Hid (tagN l = l.length - z.length) := Lib.hid (by rw [HT2.out, hsp']; rfl)
                  have hzl : z.length ≤ l.length := by have h1 := HLM.out; have h2 : (y).length = z.length + 1 := by rw [hsp']; rfl
                                                       omega
                  have hzs := sv_size z
                  clear he hsp hsp' hz
                  go_wp2_with (fail)
                  refine (text_b (t := [62]) HOb.out.s HE.out hme.out).mono ?_
                  rintro e we ⟨rfl, hDe⟩
                  have HOe := Lib.hid (HOb.out.step hDe)
                  clear hDe
                  have hce := HOe.out.s.cell
                  go_wp2
                  go_ret
                  exact ⟨ret_int (by rw [HR.out]; omega), HOe.out.m⟩
            | cons c p =>
              have hb0 : ∀ h, (sv (c :: p))[0]'h = c := fun _ => rfl
              rcases hB : isB true false [95, 58] c with _ | _
              · have hi := fun w => is_any c true false [95, 58] w
                rw [hB] at hi
                have HS : Hid (attrs k = some k) := Lib.hid (attrs_stop hp (.inr hB))
                clear hB
                have HT : Hid (tagN l = took l (endF (slash (gapF k)))) := Lib.hid (by rw [HT1.out, hAt.out, HS.out])
                clear hn hp HT1 hAt
                go_wp2_with (fail)
                refine (gap_n HA.out.o.s HKL.out HG.out.1 HG.out.2).mono ?_
                rintro e w4 ⟨rfl, hD⟩
                have HA4 := Lib.hid (HA.out.step hD)
                clear hD HA
                have hc4 := HA4.out.o.s.cell
                have hf4 := HA4.out.o.s.frozen
                have hc5 := HA4.out.sa.cell
                have HB4 := Lib.hid HA4.out.back
                go_wp2_with (fail)
                refine (hi _).mono ?_
                rintro e w6 ⟨rfl, rfl⟩
                have hgl := (gap_suffix k).length_le
                have hml := HLm.out
                have HL1 : Hid ((k).length ≤ 9223372036854775807) := Lib.hid (by omega)
                obtain ⟨q, hq⟩ : ∃ q, gapF k = q := ⟨_, rfl⟩
                rw [hq] at HT hgl
                have HQ := Lib.hid hq
                clear hq
                rcases hs : ([47] : Bs).isPrefixOf q with _ | _
                · have HS := Lib.hid hs
                  have hmq : Hid ((if ([47] : Bs).isPrefixOf q then q.drop ([47] : Bs).length else q) = q) := Lib.hid (by rw [hs]; rfl)
                  have HT2 : Hid (tagN l = took l (endF q)) := Lib.hid (by rw [HT.out, slash_no hs])
                  have HLM : Hid (q.length ≤ l.length) := Lib.hid (by omega)
                  clear hs hgl hml HT
                  go_wp2_with (fail)
                  refine (gap_n HB4.out.s HL1.out rfl HQ.out).mono ?_
                  rintro e wa ⟨rfl, hDa⟩
                  have HOa := Lib.hid (HB4.out.step hDa)
                  clear hDa
                  go_wp2_with (fail)
                  refine (text_b (t := [47]) HOa.out.s HS.out hmq.out).mono ?_
                  rintro e wb ⟨rfl, hDb⟩
                  have HOb := Lib.hid (HOa.out.step hDb)
                  clear hDb HOa
                  rcases he : ([62] : Bs).isPrefixOf q with _ | _
                  · have HE := Lib.hid he
                    have hme : Hid ((if ([62] : Bs).isPrefixOf q then (q).drop ([62] : Bs).length else q) = q) := Lib.hid (by rw [he]; rfl)
                    have HR : Hid (tagN l = 0) := Lib.hid (by rw [HT2.out, end_no he]; rfl)
                    clear he
                    go_wp2_with (fail)
                    refine (text_b (t := [62]) HOb.out.s HE.out hme.out).mono ?_
                    rintro e we ⟨rfl, hDe⟩
                    have HOe := Lib.hid (HOb.out.step hDe)
                    clear hDe
                    go_wp2
                    go_ret
                    exact ⟨ret_int (by rw [HR.out]; rfl), HOe.out.m⟩
                  · have hsp := pre_split he
                    obtain ⟨z, hz⟩ : ∃ z, (q).drop ([62] : Bs).length = z := ⟨_, rfl⟩
                    rw [hz] at hsp
                    have hsp' : q = 62 :: z := hsp
                    have HE := Lib.hid he
                    have hme : Hid ((if ([62] : Bs).isPrefixOf q then (q).drop ([62] : Bs).length else q) = z) := Lib.hid (by rw [he, if_pos rfl, hz])
                    have HR : Hid (tagN l = l.length - z.length) := Lib.hid (by rw [HT2.out, hsp']; rfl)
                    have hzl : z.length ≤ l.length := by have h1 := HLM.out; have h2 : (q).length = z.length + 1 := by rw [hsp']; rfl
                                                         omega
                    have hzs := sv_size z
                    clear he hsp hsp' hz
                    go_wp2_with (fail)
                    refine (text_b (t := [62]) HOb.out.s HE.out hme.out).mono ?_
                    rintro e we ⟨rfl, hDe⟩
                    have HOe := Lib.hid (HOb.out.step hDe)
                    clear hDe
                    have hce := HOe.out.s.cell
                    go_wp2
                    go_ret
                    exact ⟨ret_int (by rw [HR.out]; omega), HOe.out.m⟩
                · have hsp := pre_split hs
                  obtain ⟨y, hy⟩ : ∃ y, q.drop ([47] : Bs).length = y := ⟨_, rfl⟩
                  rw [hy] at hsp
                  have hsp' : q = 47 :: y := hsp
                  have HS := Lib.hid hs
                  have hmq : Hid ((if ([47] : Bs).isPrefixOf q then q.drop ([47] : Bs).length else q) = y) := Lib.hid (by rw [hs, if_pos rfl, hy])
                  have HT2 : Hid (tagN l = took l (endF y)) := Lib.hid (by rw [HT.out, hsp']; rfl)
                  have HLM : Hid (y.length ≤ l.length) := Lib.hid (by
                    have h2 : q.length = y.length + 1 := by rw [hsp']; rfl
                    omega)
                  clear hs hgl hml HT hsp hsp' hy
                  go_wp2_with (fail)
                  refine (gap_n HB4.out.s HL1.out rfl HQ.out).mono ?_
                  rintro e wa ⟨rfl, hDa⟩
                  have HOa := Lib.hid (HB4.out.step hDa)
                  clear hDa
                  go_wp2_with (fail)
                  refine (text_b (t := [47]) HOa.out.s HS.out hmq.out).mono ?_
                  rintro e wb ⟨rfl, hDb⟩
                  have HOb := Lib.hid (HOa.out.step hDb)
                  clear hDb HOa
                  rcases he : ([62] : Bs).isPrefixOf y with _ | _
                  · have HE := Lib.hid he
                    have hme : Hid ((if ([62] : Bs).isPrefixOf y then (y).drop ([62] : Bs).length else y) = y) := Lib.hid (by rw [he]; rfl)
                    have HR : Hid (tagN l = 0) := Lib.hid (by rw [HT2.out, end_no he]; rfl)
                    clear he
                    go_wp2_with (fail)
                    refine (text_b (t := [62]) HOb.out.s HE.out hme.out).mono ?_
                    rintro e we ⟨rfl, hDe⟩
                    have HOe := Lib.hid (HOb.out.step hDe)
                    clear hDe
                    go_wp2
                    go_ret
                    exact ⟨ret_int (by rw [HR.out]; rfl), HOe.out.m⟩
                  · have hsp := pre_split he
                    obtain ⟨z, hz⟩ : ∃ z, (y).drop ([62] : Bs).length = z := ⟨_, rfl⟩
                    rw [hz] at hsp
                    have hsp' : y = 62 :: z := hsp
                    have HE := Lib.hid he
                    have hme : Hid ((if ([62] : Bs).isPrefixOf y then (y).drop ([62] : Bs).length else y) = z) := Lib.hid (by rw [he, if_pos rfl, hz])
                    have HR : Hid (tagN l = l.length - z.length) := Lib.hid (by rw [HT2.out, hsp']; rfl)
                    have hzl : z.length ≤ l.length := by have h1 := HLM.out; have h2 : (y).length = z.length + 1 := by rw [hsp']; rfl
                                                         omega
                    have hzs := sv_size z
                    clear he hsp hsp' hz
                    go_wp2_with (fail)
                    refine (text_b (t := [62]) HOb.out.s HE.out hme.out).mono ?_
                    rintro e we ⟨rfl, hDe⟩
                    have HOe := Lib.hid (HOb.out.step hDe)
                    clear hDe
                    have hce := HOe.out.s.cell
                    go_wp2
                    go_ret
                    exact ⟨ret_int (by rw [HR.out]; omega), HOe.out.m⟩
              · have hi := fun w => is_any c true false [95, 58] w
                rw [hB] at hi
                obtain ⟨d, hd⟩ : ∃ d, (c :: p).dropWhile attrB = d := ⟨_, rfl⟩
                have hdl : d.length ≤ (c :: p).length := by rw [← hd]; exact (dw_suffix attrB _).length_le
                have HDW := Lib.hid hd
                have HPL : Hid ((c :: p).length ≤ 9223372036854775807) := Lib.hid (by omega)
                have HDL : Hid (d.length ≤ 4294967280) := Lib.hid (by omega)
                rcases hv : valF d with _ | v
                · have HV := Lib.hid hv
                  have HR : Hid (tagN l = 0) := Lib.hid (by rw [HT1.out, hAt.out, attrs_bad hp (by omega) hB (by rw [hd]; exact hv)]; rfl)
                  clear hn hp hB hd hv HT1 hAt
                  go_wp2_with (fail)
                  refine (gap_n HA.out.o.s HKL.out HG.out.1 HG.out.2).mono ?_
                  rintro e w4 ⟨rfl, hD⟩
                  have HA4 := Lib.hid (HA.out.step hD)
                  clear hD HA
                  have hc4 := HA4.out.o.s.cell
                  go_wp2_with (fail)
                  refine (hi _).mono ?_
                  rintro e w6 ⟨rfl, rfl⟩
                  clear hc4
                  go_wp2_with (fail)
                  refine (some_n (o := [95, 46, 58, 45]) HA4.out.o.s HPL.out rfl HDW.out).mono ?_
                  rintro e w7 ⟨rfl, hD⟩
                  have HO7 := Lib.hid (HA4.out.o.step hD)
                  clear hD HA4
                  go_wp2_with (fail)
                  refine (value_none HO7.out.s HDL.out HV.out).mono ?_
                  rintro e w8 ⟨rfl, z, hD⟩
                  have HO8 := Lib.hid (HO7.out.step hD)
                  clear hD HO7
                  go_wp2
                  go_ret
                  exact ⟨ret_int (by rw [HR.out]; rfl), HO8.out.m⟩
                · have HV := Lib.hid hv
                  have hgo := attrs_go hp (by omega) hB (by rw [hd]; exact hv)
                  have HAt : Hid (attrs m = attrs v) := Lib.hid (by rw [hAt.out, hgo.1])
                  have hvl := hgo.2
                  clear hn hp hB hd hv HT1 hAt hgo
                  go_wp2_with (fail)
                  refine (gap_n HA.out.o.s HKL.out HG.out.1 HG.out.2).mono ?_
                  rintro e w4 ⟨rfl, hD⟩
                  have HA4 := Lib.hid (HA.out.step hD)
                  clear hD HA
                  have hc4 := HA4.out.o.s.cell
                  go_wp2_with (fail)
                  refine (hi _).mono ?_
                  rintro e w6 ⟨rfl, rfl⟩
                  clear hc4
                  go_wp2_with (fail)
                  refine (some_n (o := [95, 46, 58, 45]) HA4.out.o.s HPL.out rfl HDW.out).mono ?_
                  rintro e w7 ⟨rfl, hD⟩
                  have HO7 := Lib.hid (HA4.out.o.step hD)
                  clear hD HA4
                  go_wp2_with (fail)
                  refine (value_some HO7.out.s HDL.out HV.out).mono ?_
                  rintro e w8 ⟨rfl, hD⟩
                  have HO8 := Lib.hid (HO7.out.step hD)
                  clear hD HO7
                  cases gk with
                  | zero => omega
                  | succ f =>
                    go_wp2
                    go_roundg f
                    case measure => omega
                    case rel => exact ⟨v, by omega, HO8, HAt, by omega⟩
  · have hsp := pre_split hp
    obtain ⟨r, hr⟩ : ∃ r, l.drop ([60, 47] : Bs).length = r := ⟨_, rfl⟩
    rw [hr] at hsp
    have hsp' : l = 60 :: 47 :: r := hsp
    have hrl : l.length = r.length + 2 := by rw [hsp']; rfl
    have HP := Lib.hid hp
    have hmp : Hid ((if ([60, 47] : Bs).isPrefixOf l then l.drop ([60, 47] : Bs).length else l) = r) := Lib.hid (by rw [hp, if_pos rfl, hr])
    have HT0 : Hid (tagN l = took l (match nameF r with | none => none | some m => endF (gapF m))) := Lib.hid (by unfold tagN; rw [hsp', tag_A])
    have HRL : Hid (r.length ≤ 9223372036854775807) := Lib.hid (by omega)
    clear hp hsp hsp' hr
    rcases hn : nameF r with _ | m
    · have HR : Hid (tagN l = 0) := Lib.hid (by rw [HT0.out, hn]; rfl)
      have HNs : Hid ((nameF r).isSome = false ∧ (nameF r).getD r = r) := Lib.hid (by rw [hn]; exact ⟨rfl, rfl⟩)
      clear hn
      go_enter Tryd.func14, Tryd.ntmps14
      go_wp2_with (fail)
      refine (text_b (t := [60, 47]) HN.out.s HP.out hmp.out).mono ?_
      rintro e w1 ⟨rfl, hD⟩
      have HO := Lib.hid (HN.out.step hD)
      clear hD HN
      go_wp2_with (fail)
      refine (name_b HO.out.s HRL.out HNs.out.1 HNs.out.2).mono ?_
      rintro e w3 ⟨rfl, hD⟩
      have HO3 := Lib.hid (HO.out.step hD)
      clear hD HO
      go_wp2
      go_ret
      exact ⟨ret_int (by rw [HR.out]; rfl), HO3.out.m⟩
    · have hml : m.length ≤ r.length := (name_suffix hn).length_le
      have hgl := (gap_suffix m).length_le
      obtain ⟨q, hq⟩ : ∃ q, gapF m = q := ⟨_, rfl⟩
      rw [hq] at hgl
      have HQ := Lib.hid hq
      have HT1 : Hid (tagN l = took l (endF q)) := Lib.hid (by rw [HT0.out, hn]; dsimp only; rw [hq])
      have HNs : Hid ((nameF r).isSome = true ∧ (nameF r).getD r = m) := Lib.hid (by rw [hn]; exact ⟨rfl, rfl⟩)
      have HML : Hid (m.length ≤ 9223372036854775807) := Lib.hid (by omega)
      have HLM : Hid (q.length ≤ l.length) := Lib.hid (by omega)
      clear hn hq HT0
      go_enter Tryd.func14, Tryd.ntmps14
      go_wp2_with (fail)
      refine (text_b (t := [60, 47]) HN.out.s HP.out hmp.out).mono ?_
      rintro e w1 ⟨rfl, hD⟩
      have HO := Lib.hid (HN.out.step hD)
      clear hD HN
      go_wp2_with (fail)
      refine (name_b HO.out.s HRL.out HNs.out.1 HNs.out.2).mono ?_
      rintro e w3 ⟨rfl, hD⟩
      have HO3 := Lib.hid (HO.out.step hD)
      clear hD HO
      go_wp2_with (fail)
      refine (gap_n HO3.out.s HML.out rfl HQ.out).mono ?_
      rintro e w4 ⟨rfl, hD⟩
      have HO4 := Lib.hid (HO3.out.step hD)
      clear hD HO3
      rcases he : ([62] : Bs).isPrefixOf q with _ | _
      · have HE := Lib.hid he
        have hme : Hid ((if ([62] : Bs).isPrefixOf q then (q).drop ([62] : Bs).length else q) = q) := Lib.hid (by rw [he]; rfl)
        have HR : Hid (tagN l = 0) := Lib.hid (by rw [HT1.out, end_no he]; rfl)
        clear he
        go_wp2_with (fail)
        refine (text_b (t := [62]) HO4.out.s HE.out hme.out).mono ?_
        rintro e we ⟨rfl, hDe⟩
        have HOe := Lib.hid (HO4.out.step hDe)
        clear hDe
        go_wp2
        go_ret
        exact ⟨ret_int (by rw [HR.out]; rfl), HOe.out.m⟩
      · have hsp := pre_split he
        obtain ⟨z, hz⟩ : ∃ z, (q).drop ([62] : Bs).length = z := ⟨_, rfl⟩
        rw [hz] at hsp
        have hsp' : q = 62 :: z := hsp
        have HE := Lib.hid he
        have hme : Hid ((if ([62] : Bs).isPrefixOf q then (q).drop ([62] : Bs).length else q) = z) := Lib.hid (by rw [he, if_pos rfl, hz])
        have HR : Hid (tagN l = l.length - z.length) := Lib.hid (by rw [HT1.out, hsp']; rfl)
        have hzl : z.length ≤ l.length := by have h1 := HLM.out; have h2 : (q).length = z.length + 1 := by rw [hsp']; rfl
                                             omega
        have hzs := sv_size z
        clear he hsp hsp' hz
        go_wp2_with (fail)
        refine (text_b (t := [62]) HO4.out.s HE.out hme.out).mono ?_
        rintro e we ⟨rfl, hDe⟩
        have HOe := Lib.hid (HO4.out.step hDe)
        clear hDe
        have hce := HOe.out.s.cell
        go_wp2
        go_ret
        exact ⟨ret_int (by rw [HR.out]; omega), HOe.out.m⟩
end Go.Proofs.YtkmidilaabgooaaDoor
