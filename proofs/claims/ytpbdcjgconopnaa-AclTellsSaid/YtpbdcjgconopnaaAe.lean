/-
  May.
-/
import Derived.Test.YtpbdcjgconopnaaPu
namespace Go.Proofs.Ytpbdcjgconopnaa
open Go.RowKit Mem
set_option linter.unusedVariables false

theorem who_b {l : Bs} {v : Value} (hl : l.length ≤ 9223372036854775807) (hv : whoV l = v) (w : World) : Calls Try.prog 14 #[.string (sv l)] w fun e w' => e = .returned v ∧ Mod (fun _ => False) w w' := by
  rw [← hv]; exact who_any l w hl
theorem name_b {l : Bs} {b : Bool} (hb : nm l = b) (w : World) : Calls Try.prog 12 #[.string (sv l)] w fun e w' => e = .returned (.bool b) ∧ Mod (fun _ => False) w w' := by
  rw [← hb]; exact name_any l w
theorem right_b {v : Value} {l : List Gr} {b : Bool} (w : World) (h : Gs w v l) (hg : Goks l) (hb : rightB l = b) : Calls Try.prog 9 #[v] w fun e w' => e = .returned (.bool b) ∧ Mod (fun _ => False) w w' := by
  rw [← hb]; exact right_any v l w h hg
theorem bsf_b (v : Value) (l : List Gr) (t u : Bs) (r : Int) (w : World) (h : Gs w v l) (hl : l.length ≤ 1000000) : Calls Try.prog 23 #[v, .agg #[.string (sv t), .string (sv u), .int .i64 r], .func (.func 24) #[] #[]] w (Searched l ⟨t, u, r⟩ w) := bsf_any v l ⟨t, u, r⟩ w h hl
def root : Bs := [114, 111, 111, 116]
theorem sv_root : (ByteArray.mk #[114, 111, 111, 116]) = sv root := rfl

set_option maxRecDepth 100000 in
set_option maxHeartbeats 3200000 in
theorem may_any (v : Value) (l : List Gr) (t u : Bs) (w : World) (h : Gs w v l) (hg : Goks l) (hu : u.length ≤ 9223372036854775807) : Calls Try.prog 10 #[v, .string (sv t), .string (sv u)] w fun e w' => e = .returned (.int .i64 (mayB l t u)) ∧ Mod (fun _ => False) w w' := by
  obtain ⟨A, c, rfl, hlc, hcm, hA⟩ := h.form
  unfold maxLen at hcm
  have HA := Lib.hid hA
  have HG := Lib.hid h
  have HK := Lib.hid hg
  clear hA h hg
  rcases hq : who u with _ | ⟨ho, o⟩
  · have hv : whoV u = .tuple #[.string (sv []), .string (sv []), .bool false] := by unfold whoV; rw [hq]
    have hm : mayB l t u = 0 := by unfold mayB; rw [hq]
    have Hm := Lib.hid hm
    have Hw := Lib.hid (who_b hu hv)
    clear hq hv hm
    go_enter Try.func10, Try.ntmps10
    go_wp2_with (fail)
    refine (Hw.out w).mono ?_
    rintro e w1 ⟨rfl, hm1⟩
    have Hfin := Lib.hid hm1
    clear hm1
    go_wp2
    go_ret
    exact ⟨ret_int Hm.out.symm, Hfin.out⟩
  · have hv : whoV u = .tuple #[.string (sv ho), .string (sv o), .bool true] := by unfold whoV; rw [hq]
    have hm : mayB l t u = if !nm t || !rightB l then 0 else if ho == t then (if o == root then 3 else 2) else look l t u := by unfold mayB; rw [hq]; rfl
    have Hm := Lib.hid hm
    have Hw := Lib.hid (who_b hu hv)
    clear hq hv hm
    go_enter Try.func10, Try.ntmps10
    go_wp2_with (fail)
    refine (Hw.out w).mono ?_
    rintro e w1 ⟨rfl, hm1⟩
    have Hm1 := Lib.hid hm1
    clear hm1 Hw
    rcases hn : nm t with _ | _
    · have hres : mayB l t u = 0 := by rw [Hm.out, hn]; rfl
      have Hres := Lib.hid hres
      have Hn := Lib.hid (name_b hn)
      clear hn hres
      go_wp2_with (fail)
      refine (Hn.out w1).mono ?_
      rintro e w2 ⟨rfl, hm2⟩
      have Hfin : Hid (Mod (fun _ => False) w w2) := Lib.hid (Hm1.out.trans hm2 (fun _ h => h.elim))
      clear hm2
      go_wp2
      go_ret
      exact ⟨ret_int Hres.out.symm, Hfin.out⟩
    · have Hn := Lib.hid (name_b hn)
      have Hnt := Lib.hid hn
      clear hn
      go_wp2_with (fail)
      refine (Hn.out w1).mono ?_
      rintro e w2 ⟨rfl, hm2⟩
      have Hm2 : Hid (Mod (fun _ => False) w w2) := Lib.hid (Hm1.out.trans hm2 (fun _ h => h.elim))
      clear hm2
      rcases hr : rightB l with _ | _
      · have hres : mayB l t u = 0 := by rw [Hm.out, hr]; simp
        have Hres := Lib.hid hres
        have Hr := Lib.hid (right_b w2 (HG.out.new Hm2.out) HK.out hr)
        clear hr hres
        go_wp2_with (fail)
        refine Hr.out.mono ?_
        rintro e w3 ⟨rfl, hm3⟩
        have Hfin : Hid (Mod (fun _ => False) w w3) := Lib.hid (Hm2.out.trans hm3 (fun _ h => h.elim))
        clear hm3
        go_wp2
        go_ret
        exact ⟨ret_int Hres.out.symm, Hfin.out⟩
      · have hres : mayB l t u = if ho == t then (if o == root then 3 else 2) else look l t u := by rw [Hm.out, hr, Hnt.out]; rfl
        have Hres := Lib.hid hres
        have Hrt := Lib.hid hr
        have Hr := Lib.hid (right_b w2 (HG.out.new Hm2.out) HK.out hr)
        clear hr hres
        go_wp2_with (fail)
        refine Hr.out.mono ?_
        rintro e w3 ⟨rfl, hm3⟩
        have Hm3 : Hid (Mod (fun _ => False) w w3) := Lib.hid (Hm2.out.trans hm3 (fun _ h => h.elim))
        clear hm3
        have hbt := sv_beq ho t
        have hbr : ((sv o).toList == (ByteArray.mk #[114, 111, 111, 116]).toList) = (o == root) := sv_beq o root
        have hbr2 : ((sv o).toList == [114, 111, 111, 116]) = (o == root) := by rw [sv_toList]; rfl
        rcases h1 : ho == t with _ | _
        · have Hres2 : Hid (mayB l t u = look l t u) := Lib.hid (by rw [Hres.out, h1]; rfl)
          rw [h1] at hbt
          clear h1
          go_wp2_with (fail)
          refine (bsf_b _ l t u 0 w3 (HG.out.new Hm3.out) (by have := (right_ok Hrt.out).1; omega)).mono ?_
          rintro e w4 ⟨i, hbs, rfl, hm4⟩
          have Hm4 : Hid (Mod (fun _ => False) w w4) := Lib.hid (Hm3.out.trans hm4 (fun _ h => h.elim))
          clear hm4
          have hlk := look_at (right_rise Hrt.out) hbs
          rcases hf : foundB l ⟨t, u, 0⟩ i with _ | _
          · have Hlk : Hid (look l t u = 0) := Lib.hid (by rw [hlk, hf]; rfl)
            clear hf hlk hbs
            go_wp2
            go_ret
            exact ⟨ret_int (by rw [Hres2.out, Hlk.out]), Hm4.out⟩
          · have Hlk : Hid (look l t u = l[i]!.r) := Lib.hid (by rw [hlk, hf]; rfl)
            have hi := (found_same hf).1
            rcases HA.out with h | ⟨ad, rfl⟩
            · omega
            have hGr := HG.out.new Hm4.out
            obtain ⟨_, _, c2⟩ := hGr.at_ i hi
            rw [← getElem!_pos l i hi] at c2
            have hq1 : (i : Int) < (l.length : Int) := by omega
            clear hf hlk hbs hGr
            go_wp2
            go_ret
            exact ⟨ret_int (by rw [Hres2.out, Hlk.out, getElem!_pos l i hi]), Hm4.out⟩
        · rw [h1] at hbt
          rcases h2 : o == root with _ | _
          · have Hres2 : Hid (mayB l t u = 2) := Lib.hid (by rw [Hres.out, h1, h2]; rfl)
            rw [h2] at hbr hbr2
            clear h1 h2
            go_wp2
            go_ret
            exact ⟨ret_int Hres2.out.symm, Hm3.out⟩
          · have Hres2 : Hid (mayB l t u = 3) := Lib.hid (by rw [Hres.out, h1, h2]; rfl)
            rw [h2] at hbr hbr2
            clear h1 h2
            go_wp2
            go_ret
            exact ⟨ret_int Hres2.out.symm, Hm3.out⟩
end Go.Proofs.Ytpbdcjgconopnaa
