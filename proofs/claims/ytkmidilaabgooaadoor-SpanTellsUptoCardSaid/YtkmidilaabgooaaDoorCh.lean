/-
  strings.Split at a point; mail.
-/
import Derived.Test.YtkmidilaabgooaaDoorCg
namespace Go.Proofs.YtkmidilaabgooaaDoor
open Go.RowKit Mem
set_option linter.unusedVariables false
set_option linter.unusedSimpArgs false

theorem pieces_none {c : UInt8} : ∀ {l : Bs}, cut c l = none → pieces c l = [l]
  | [], _ => rfl
  | b :: l, h => by
    unfold cut at h
    split at h
    · cases h
    · rename_i hb
      cases hc : cut c l with
      | some p => rw [hc] at h; cases h
      | none =>
        unfold pieces
        rw [if_neg hb, pieces_none hc]
theorem pieces_some {c : UInt8} : ∀ {l a b : Bs}, cut c l = some (a, b) → pieces c l = a :: pieces c b
  | [], _, _, h => by cases h
  | x :: l, a, b, h => by
    unfold cut at h
    split at h
    · rename_i hb
      injection h with h; injection h with h1 h2
      subst h1 h2
      rw [pieces]
      rw [if_pos hb]
    · rename_i hb
      cases hc : cut c l with
      | none => rw [hc] at h; cases h
      | some p =>
        rw [hc] at h
        injection h with h; injection h with h1 h2
        subst h1 h2
        rw [pieces]
        rw [if_neg hb, pieces_some hc]
theorem index_one (c : UInt8) : ∀ l : Bs, Lib.index l [c] = Lib.indexByte l c
  | [] => rfl
  | b :: l => by
    have : ([c] : Bs).isPrefixOf (b :: l) = (b == c) := by
      rw [pre_cons, Bool.eq_iff_iff, beq_iff_eq, beq_iff_eq]; exact ⟨fun h => h.symm, fun h => h.symm⟩
    unfold Lib.index Lib.indexByte
    rw [this, index_one c l]
theorem split_pieces (c : UInt8) : ∀ (f : Nat) (s : Bs), s.length < f → Lib.splitK [c] 0 (Lib.countFrom [c] f s) s = pieces c s
  | 0, s, h => by omega
  | f + 1, s, h => by
    unfold Lib.countFrom
    rcases cut_index c s with ⟨h1, h2⟩ | ⟨n, h1, h2, h3⟩
    · rw [index_one, h1, if_pos (by rfl), pieces_none h2]
      rfl
    · have hne : ¬ (((n : Nat) : Int) == -1) = true := by simp
      rw [index_one, h1, if_neg hne, pieces_some h3, Nat.add_comm 1]
      unfold Lib.splitK
      rw [index_one, h1, if_neg hne]
      show s.take (n + 0) :: _ = _
      rw [Nat.add_zero]
      have ih := split_pieces c f (s.drop (n + 1)) (by rw [List.length_drop]; omega)
      show _ :: Lib.splitK [c] 0 (Lib.countFrom [c] f (s.drop (n + 1))) (s.drop (n + 1)) = _
      rw [ih]
theorem split_list (c : UInt8) (s : Bs) : Lib.splitB (sv [c]) 0 (Lib.countB (sv s) (sv [c])) (sv s) = (pieces c s).map sv := by
  have h := Lib.splitB_data (sv [c]) 0 (Lib.countB (sv s) (sv [c])) (sv s)
  rw [sv_list, sv_list] at h
  have e : Lib.countB (sv s) (sv [c]) = Lib.countFrom [c] (s.length + 1) s := rfl
  rw [e, split_pieces c _ s (by omega)] at h
  rw [e]
  have h2 := congrArg (List.map sv) h
  rw [List.map_map] at h2
  rw [← h2]
  have hid : sv ∘ (fun x : ByteArray => x.data.toList) = id := funext sv_of
  rw [hid, List.map_id]
theorem split_count (c : UInt8) (s : Bs) : Lib.countB (sv s) (sv [c]) + 1 = (pieces c s).length := by
  have h := congrArg List.length (split_list c s)
  rw [List.length_map] at h
  rw [← h]
  exact (Lib.splitB_all (sv [c]) (by show 1 ≤ 1; decide) 0 _ (sv s) rfl).symm
/-- The pieces' cells. -/
def pcs (ps : List Bs) : Array Value := (ps.map fun p => Value.string (sv p)).toArray
theorem split_any (l : Bs) (m : Int) (w : World) (hs : l.length ≤ 4294967280) (hm : w.cell? ⟨0, 0, none⟩ = some (.int .i64 m)) :
    Calls Tryd.prog 61 #[.string (sv l), .string (sv [46])] w fun e w' => e = .returned (.slice (some ⟨w.heap.size, 0, none⟩) (pieces 46 l).length (pieces 46 l).length) ∧ w' = w.alloc (.cells (pcs (pieces 46 l)) 9) := by
  have h := Tryd.strings_Split (sv l) (sv [46]) m w (by rw [sv_size]; omega) hm (by decide)
  rw [split_count, split_list, List.map_map] at h
  exact h
theorem pcs_at (ps : List Bs) (k : Nat) (h : k < ps.length) : (pcs ps)[k]? = some (.string (sv ps[k])) := by
  unfold pcs
  rw [List.getElem?_toArray, List.getElem?_map, List.getElem?_eq_getElem h]
  rfl

/-- The pieces lie where they lay. -/
structure Pcs (w wr : World) (b : Nat) (ps : List Bs) : Prop where
  m : Mod (fun _ => False) w wr
  b : Blk wr b (pcs ps) 9
theorem Pcs.own {w wr wr' : World} {b g : Nat} {ps : List Bs} {l : Bs} (h : Pcs w wr b ps) (k : Own wr wr' g l) : Pcs w wr' b ps := ⟨h.m.trans k.m (fun _ h => h.elim), h.b.mod k.m (fun h => h)⟩

theorem part_empty : partB [] = false := rfl
theorem part_long {p : Bs} (h : 63 < p.length) : partB p = false := by
  unfold partB; rw [decide_eq_false (show ¬ p.length ≤ 63 by omega)]; simp
theorem part_odd {p : Bs} (h : (p.takeWhile nameB).length ≠ p.length) : partB p = false := by
  have : p.all nameB = false := by
    cases ha : p.all nameB with
    | false => rfl
    | true =>
      exact absurd (tw_at nameB p p.length (Nat.le_refl _) (fun j hj _ => List.all_eq_true.1 ha _ (List.getElem_mem hj)) (fun h => absurd h (Nat.lt_irrefl _))).1 h
  unfold partB; rw [this]; simp
theorem part_is {c : UInt8} {q : Bs} (h63 : (c :: q).length ≤ 63) (h : ((c :: q).takeWhile nameB).length = (c :: q).length) {z : UInt8} (hz : (c :: q)[q.length]? = some z) : partB (c :: q) = (!(c == 45) && !(z == 45)) := by
  have ha : (c :: q).all nameB = true := by
    rw [List.all_eq_true]
    have := List.takeWhile_prefix nameB (l := c :: q)
    have e : (c :: q).takeWhile nameB = c :: q := this.eq_of_length h
    have h2 := List.all_takeWhile (p := nameB) (l := c :: q)
    rw [e] at h2
    exact List.all_eq_true.1 h2
  have hl : (c :: q).getLast? = some z := by
    rw [List.getLast?_eq_getElem?]
    exact hz
  unfold partB
  rw [ha, hl, decide_eq_true h63, decide_eq_true (show 1 ≤ (c :: q).length from Nat.succ_pos _), List.head?_cons]
  show (true && !(some c == some 45) && !(some z == some 45)) = _
  simp
theorem mail_zero {t : Bs} (h : (t.takeWhile mailB).length = 0) : mailF t = false := by
  have hl := tw_dw_len mailB t
  unfold mailF
  cases hd : t.dropWhile mailB with
  | nil => rfl
  | cons c d =>
    rw [hd] at hl
    dsimp only
    rw [decide_eq_false (by omega)]; rfl
theorem mail_no {t r : Bs} (hr : t.dropWhile mailB = r) (h : ([64] : Bs).isPrefixOf r = false) : mailF t = false := by
  unfold mailF
  rw [hr]
  cases r with
  | nil => rfl
  | cons c d =>
    rw [pre_cons] at h
    have : (c == 64) = false := by rw [beq_eq_false_iff_ne] at h ⊢; exact fun e => h e.symm
    dsimp only
    rw [this]; simp
theorem mail_is {t d : Bs} (hr : t.dropWhile mailB = 64 :: d) (h : (t.takeWhile mailB).length ≠ 0) : mailF t = (pieces 46 d).all partB := by
  have hl := tw_dw_len mailB t
  rw [hr] at hl
  unfold mailF
  rw [hr]
  dsimp only
  rw [decide_eq_true (by omega)]
  rfl

set_option maxRecDepth 100000 in
set_option maxHeartbeats 4000000 in
theorem mail_any (t : Bs) (m : Int) (w : World) (hl : t.length ≤ 4294967280) (hm : w.cell? ⟨0, 0, none⟩ = some (.int .i64 m)) :
    Calls Tryd.prog 33 #[.string (sv t)] w fun e w' => e = .returned (.bool (mailF t)) ∧ Mod (fun _ => False) w w' := by
  have HM := Lib.hid hm
  have HN := Lib.hid (Own.new w t)
  have hlen := tw_dw_len mailB t
  obtain ⟨n, hn⟩ : ∃ n, (t.takeWhile mailB).length = n := ⟨_, rfl⟩
  obtain ⟨r, hr⟩ : ∃ r, t.dropWhile mailB = r := ⟨_, rfl⟩
  rw [hn, hr] at hlen
  have HL : Hid (t.length ≤ 9223372036854775807) := Lib.hid (by omega)
  have HS : Hid ((t.takeWhile mailB).length = n ∧ t.dropWhile mailB = r) := Lib.hid ⟨hn, hr⟩
  clear hm
  by_cases hn0 : n = 0
  · have HF := Lib.hid (mail_zero (hn.trans hn0))
    subst hn0
    clear hn hr
    go_enter Tryd.func33, Tryd.ntmps33
    go_wp2_with (fail)
    refine (some_n (o := [46, 33, 35, 36, 37, 38, 39, 42, 43, 47, 61, 63, 94, 95, 123, 124, 125, 126, 45, 96]) HN.out.s HL.out HS.out.1 HS.out.2).mono ?_
    rintro e w1 ⟨rfl, hD⟩
    have HO := Lib.hid (HN.out.step hD)
    clear hD HN
    go_wp2
    go_ret
    exact ⟨ret_bool HF.out.symm, HO.out.m⟩
  · have hn0' : ((n : Int) == 0) = false := beq_eq_false_iff_ne.2 (by omega)
    rcases hp : ([64] : Bs).isPrefixOf r with _ | _
    · have HF := Lib.hid (mail_no hr hp)
      have HP := Lib.hid hp
      have hmp : Hid ((if ([64] : Bs).isPrefixOf r then r.drop ([64] : Bs).length else r) = r) := Lib.hid (by rw [hp]; rfl)
      clear hn hr hp
      go_enter Tryd.func33, Tryd.ntmps33
      go_wp2_with (fail)
      refine (some_n (o := [46, 33, 35, 36, 37, 38, 39, 42, 43, 47, 61, 63, 94, 95, 123, 124, 125, 126, 45, 96]) HN.out.s HL.out HS.out.1 HS.out.2).mono ?_
      rintro e w1 ⟨rfl, hD⟩
      have HO := Lib.hid (HN.out.step hD)
      clear hD HN
      go_wp2_with (fail)
      refine (text_b (t := [64]) HO.out.s HP.out hmp.out).mono ?_
      rintro e w2 ⟨rfl, hD⟩
      have HO2 := Lib.hid (HO.out.step hD)
      clear hD HO
      go_wp2
      go_ret
      exact ⟨ret_bool HF.out.symm, HO2.out.m⟩
    · have hsp := pre_split hp
      obtain ⟨d, hd⟩ : ∃ d, r.drop ([64] : Bs).length = d := ⟨_, rfl⟩
      rw [hd] at hsp
      have hsp' : r = 64 :: d := hsp
      have HP := Lib.hid hp
      have hmp : Hid ((if ([64] : Bs).isPrefixOf r then r.drop ([64] : Bs).length else r) = d) := Lib.hid (by rw [hp, if_pos rfl, hd])
      have HF := Lib.hid (mail_is (hr.trans hsp') (by omega))
      have hdl : d.length ≤ 4294967280 := by
        have : r.length = d.length + 1 := by rw [hsp']; rfl
        omega
      have hsplit := fun w hm => split_any d m w hdl hm
      obtain ⟨ps, hps⟩ : ∃ ps, pieces 46 d = ps := ⟨_, rfl⟩
      have hpl : ∀ p ∈ ps, p.length ≤ 4294967280 := by
        have key : ∀ d : Bs, ∀ p ∈ pieces 46 d, p.length ≤ d.length := by
          intro d
          induction d with
          | nil => intro p hp; have : p = [] := by simpa [pieces] using hp
                   rw [this]; exact Nat.le_refl _
          | cons b d ih =>
            intro p hp
            unfold pieces at hp
            split at hp
            · rcases List.mem_cons.1 hp with rfl | hp
              · exact Nat.zero_le _
              · have := ih p hp; simp; omega
            · cases hq : pieces 46 d with
              | nil =>
                rw [hq] at hp
                have : p = [b] := by simpa using hp
                rw [this]; simp
              | cons x xs =>
                rw [hq] at hp ih
                rcases List.mem_cons.1 hp with rfl | hp
                · have := ih x (List.mem_cons_self ..); simp; omega
                · have := ih p (List.mem_cons_of_mem _ hp); simp; omega
        intro p hp
        rw [← hps] at hp
        have := key d p hp
        omega
      have HPL := Lib.hid hpl
      have hpn : ps.length ≤ 4294967281 := by
        have key : ∀ d : Bs, (pieces 46 d).length ≤ d.length + 1 := by
          intro d
          induction d with
          | nil => exact Nat.le_refl _
          | cons b d ih =>
            unfold pieces
            split
            · simp; omega
            · cases hq : pieces 46 d with
              | nil => simp
              | cons x xs => rw [hq] at ih; simp at ih ⊢; omega
        have := key d
        rw [hps] at this
        omega
      rw [hps] at hsplit HF
      clear hn hr hp hsp hsp' hd hps hpl
      go_enter Tryd.func33, Tryd.ntmps33
      go_wp2_with (fail)
      refine (some_n (o := [46, 33, 35, 36, 37, 38, 39, 42, 43, 47, 61, 63, 94, 95, 123, 124, 125, 126, 45, 96]) HN.out.s HL.out HS.out.1 HS.out.2).mono ?_
      rintro e w1 ⟨rfl, hD⟩
      have HO := Lib.hid (HN.out.step hD)
      clear hD HN
      go_wp2_with (fail)
      refine (text_b (t := [64]) HO.out.s HP.out hmp.out).mono ?_
      rintro e w2 ⟨rfl, hD⟩
      have HO2 := Lib.hid (HO.out.step hD)
      clear hD HO
      have hc2 := HO2.out.s.cell
      go_wp2_with (fail)
      refine (hsplit _ (mod_cell HO2.out.m HM.out)).mono ?_
      rintro e w3 ⟨rfl, rfl⟩
      have HPC : Hid (Pcs w (w2.alloc (.cells (pcs ps) 9)) w2.heap.size ps) := Lib.hid ⟨HO2.out.m.alloc _, Blk.new _ _ _⟩
      clear hc2
      obtain ⟨b, hb⟩ : ∃ b, w2.heap.size = b := ⟨_, rfl⟩
      obtain ⟨w3, hw3⟩ : ∃ w3, w2.alloc (.cells (pcs ps) 9) = w3 := ⟨_, rfl⟩
      rw [hb, hw3] at HPC ⊢
      clear hb hw3 HO2
      go_wp2
      go_loopw [24] (fun i wr => ∃ k : Nat, i = .int .i64 k ∧ k ≤ ps.length ∧ Hid (Pcs w wr b ps) ∧ Hid (mailF t = (ps.drop k).all partB)) (fun i _ => ps.length - (intOf i).toNat)
      case atStart => exact ⟨0, rfl, by omega, HPC, HF⟩
      case round =>
        obtain ⟨k, rfl, hk, hC, hF⟩ := hrel
        by_cases hlt : k < ps.length
        · have hq : (k : Int) < (ps.length : Int) := by omega
          obtain ⟨p, hp⟩ : ∃ p, ps[k] = p := ⟨_, rfl⟩
          have hck := (hC.out.b.cell k).trans (pcs_at ps k hlt)
          rw [hp] at hck
          have hplen := HPL.out p (by rw [← hp]; exact List.getElem_mem hlt)
          have hF2 : Hid (mailF t = (partB p && (ps.drop (k + 1)).all partB)) := Lib.hid (by rw [hF.out, List.drop_eq_getElem_cons hlt, List.all_cons, hp])
          have HOy := Lib.hid (Own.new wr p)
          clear hp hF
          have hpz := sv_size p
          cases p with
          | nil =>
            have HR : Hid (mailF t = false) := Lib.hid (by rw [hF2.out, part_empty]; rfl)
            clear hF2
            go_wp2
            go_ret
            exact ⟨ret_bool HR.out.symm, (hC.out.own HOy.out).m⟩
          | cons c q =>
            have hpz' : (sv (c :: q)).size = q.length + 1 := hpz
            clear hpz
            have hql : q.length + 1 ≤ 4294967280 := hplen
            have hb0 : ∀ h, (sv (c :: q))[0]'h = c := fun _ => rfl
            obtain ⟨z, hz⟩ : ∃ z, (c :: q)[q.length]? = some z := ⟨(c :: q)[q.length]'(Nat.lt_succ_self _), List.getElem?_eq_getElem _⟩
            have hbz : ∀ h, (sv (c :: q))[q.length]'h = z := fun h => by
              have e := List.getElem?_eq_getElem (l := c :: q) h
              rw [hz] at e
              injection e with e
              exact e.symm
            have HPL2 : Hid ((c :: q).length ≤ 9223372036854775807) := Lib.hid (by omega)
            by_cases h63 : (63 : Int) < (q.length : Int) + 1
            · have HR : Hid (mailF t = false) := Lib.hid (by rw [hF2.out, part_long (by rw [List.length_cons]; omega)]; rfl)
              clear hF2 hz hplen
              go_wp2
              go_ret
              exact ⟨ret_bool HR.out.symm, (hC.out.own HOy.out).m⟩
            · obtain ⟨j, hj⟩ : ∃ j, ((c :: q).takeWhile nameB).length = j := ⟨_, rfl⟩
              have hjl : j ≤ q.length + 1 := by rw [← hj]; exact (List.takeWhile_prefix _).length_le
              have HJ := Lib.hid hj
              by_cases hjq : j = q.length + 1
              · have hpi := part_is (c := c) (q := q) (by rw [List.length_cons]; omega) (hj.trans hjq) hz
                rw [hpi] at hF2
                have hjb : ((j : Int) != (q.length : Int) + 1) = false := by
                  rw [hjq]; simp
                subst hjq
                by_cases hc45 : c = 45
                · have HR : Hid (mailF t = false) := Lib.hid (by rw [hF2.out, hc45]; rfl)
                  have e1 : ((c.toNat : Int) == 45) = true := by rw [hc45]; rfl
                  clear hF2 hz hplen hj hpi hc45
                  go_wp2_with (fail)
                  refine (some_n (o := [45]) HOy.out.s HPL2.out HJ.out rfl).mono ?_
                  rintro e w5 ⟨rfl, hD⟩
                  have HOz := Lib.hid (HOy.out.step hD)
                  clear hD
                  go_wp2
                  go_ret
                  exact ⟨ret_bool HR.out.symm, (hC.out.own HOz.out).m⟩
                · have e1 : ((c.toNat : Int) == 45) = false := beq_eq_false_iff_ne.2 (fun e => hc45 (UInt8.toNat_inj.1 (by show c.toNat = 45; omega)))
                  have e1' : (c == 45) = false := beq_eq_false_iff_ne.2 hc45
                  rw [e1'] at hF2
                  by_cases hz45 : z = 45
                  · have HR : Hid (mailF t = false) := Lib.hid (by rw [hF2.out, hz45]; rfl)
                    have e2 : ((z.toNat : Int) == 45) = true := by rw [hz45]; rfl
                    clear hF2 hz hplen hj hpi e1' hc45 hz45
                    go_wp2_with (fail)
                    refine (some_n (o := [45]) HOy.out.s HPL2.out HJ.out rfl).mono ?_
                    rintro e w5 ⟨rfl, hD⟩
                    have HOz := Lib.hid (HOy.out.step hD)
                    clear hD
                    go_wp2
                    go_ret
                    exact ⟨ret_bool HR.out.symm, (hC.out.own HOz.out).m⟩
                  · have e2 : ((z.toNat : Int) == 45) = false := beq_eq_false_iff_ne.2 (fun e => hz45 (UInt8.toNat_inj.1 (by show z.toNat = 45; omega)))
                    have e2' : (z == 45) = false := beq_eq_false_iff_ne.2 hz45
                    have HR : Hid (mailF t = (ps.drop (k + 1)).all partB) := Lib.hid (by rw [hF2.out, e2']; rfl)
                    clear hF2 hz hplen hj hpi e1' hc45 e2' hz45
                    go_wp2_with (fail)
                    refine (some_n (o := [45]) HOy.out.s HPL2.out HJ.out rfl).mono ?_
                    rintro e w5 ⟨rfl, hD⟩
                    have HOz := Lib.hid (HOy.out.step hD)
                    clear hD
                    have HC2 := Lib.hid (hC.out.own HOz.out)
                    clear hC HOz
                    go_wp2
                    go_roundw
                    case rel => exact ⟨k + 1, by go_num, by omega, HC2, HR⟩
                    case measure => simp [intOf]; omega
              · have hjb : ((j : Int) != (q.length : Int) + 1) = true := bne_iff_ne.2 (by omega)
                have HR : Hid (mailF t = false) := Lib.hid (by rw [hF2.out, part_odd (by rw [hj, List.length_cons]; exact hjq)]; rfl)
                clear hF2 hz hplen hj
                go_wp2_with (fail)
                refine (some_n (o := [45]) HOy.out.s HPL2.out HJ.out rfl).mono ?_
                rintro e w5 ⟨rfl, hD⟩
                have HOz := Lib.hid (HOy.out.step hD)
                clear hD
                go_wp2
                go_ret
                exact ⟨ret_bool HR.out.symm, (hC.out.own HOz.out).m⟩
        · obtain rfl : ps.length = k := by omega
          have HR : Hid (mailF t = true) := Lib.hid (by rw [hF.out, List.drop_length]; rfl)
          clear hF
          go_wp2
          go_ret
          exact ⟨ret_bool HR.out.symm, hC.out.m⟩
end Go.Proofs.YtkmidilaabgooaaDoor
