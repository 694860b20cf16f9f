/-
  The document's May.
-/
import Derived.Test.YtpbdcjgconopnaaRd
import Derived.Test.YtpbdcjgconopnaaPg
namespace Go.Proofs.Ytpbdcjgconopnaa
open Go.RowKit Mem
set_option linter.unusedVariables false

theorem rright_b {v : Value} {l : List Gr} {b : Bool} (w : World) (h : Gs w v l) (hg : Goks l) (hb : rightB l = b) : Calls Try.prog 19 #[v] w fun e w' => e = .returned (.bool b) ∧ Mod (fun _ => False) w w' := by
  rw [← hb]; exact rright_any v l w h hg

set_option maxRecDepth 100000 in
set_option maxHeartbeats 6400000 in
theorem rmayb_any (v : Value) (l : List Gr) (t u : Bs) (w : World) (h : Gs w v l) (hg : Goks l) (ht : t.length ≤ 9223372036854775807) (hu : u.length ≤ 9223372036854775807) : Calls Try.prog 20 #[v, .string (sv t), .string (sv u)] w fun e w' => e = .returned (.int .i64 (mayB l t u)) ∧ Mod (fun _ => False) w w' := by
  obtain ⟨A, c, rfl, hlc, hcm, hA⟩ := h.form
  unfold maxLen at hcm
  have HA := Lib.hid hA
  have HG := Lib.hid h
  have HK := Lib.hid hg
  clear hA h hg
  go_enter Try.func20, Try.ntmps20
  go_wp2_with (fail)
  refine (rname_b ht (b := nm t) rfl w).mono ?_
  rintro e w1 ⟨rfl, hm1⟩
  have HM1 := Lib.hid hm1
  clear hm1
  go_wp2_with (fail)
  refine (rwho_b hu (v := whoV u) rfl w1).mono ?_
  rintro e w2 ⟨rfl, hm2⟩
  have HM2 : Hid (Mod (fun _ => False) w w2) := Lib.hid (HM1.out.trans hm2 (fun _ h => h.elim))
  clear hm2 HM1
  rcases hq : who u with _ | ⟨ho, o⟩
  · have hv : whoV u = .tuple #[.string (sv []), .string (sv []), .bool false] := by unfold whoV; rw [hq]
    have Hm : Hid (mayB l t u = 0) := Lib.hid (by unfold mayB; rw [hq])
    rw [hv]
    clear hv hq
    go_wp2_with (fail)
    refine (rright_b (b := rightB l) w2 (HG.out.new HM2.out) HK.out rfl).mono ?_
    rintro e w3 ⟨rfl, hm3⟩
    have HM3 : Hid (Mod (fun _ => False) w w3) := Lib.hid (HM2.out.trans hm3 (fun _ h => h.elim))
    clear hm3
    generalize nm t = x at *
    cases x
    all_goals
      go_wp2
      go_ret
      exact ⟨ret_int Hm.out.symm, HM3.out⟩
  · have hv : whoV u = .tuple #[.string (sv ho), .string (sv o), .bool true] := by unfold whoV; rw [hq]
    have Hm : Hid (mayB l t u = if !nm t || !rightB l then 0 else if ho == t then (if o == root then 3 else 2) else look l t u) := Lib.hid (by unfold mayB; rw [hq]; rfl)
    rw [hv]
    clear hv hq
    go_wp2_with (fail)
    refine (rright_b (b := rightB l) w2 (HG.out.new HM2.out) HK.out rfl).mono ?_
    rintro e w3 ⟨rfl, hm3⟩
    have HM3 : Hid (Mod (fun _ => False) w w3) := Lib.hid (HM2.out.trans hm3 (fun _ h => h.elim))
    clear hm3
    rcases hn : nm t with _ | _
    · have Hm2 : Hid (mayB l t u = 0) := Lib.hid (by rw [Hm.out, hn]; rfl)
      clear hn
      go_wp2
      go_ret
      exact ⟨ret_int Hm2.out.symm, HM3.out⟩
    rcases hr : rightB l with _ | _
    · have Hm2 : Hid (mayB l t u = 0) := Lib.hid (by rw [Hm.out, hn, hr]; rfl)
      clear hn hr
      go_wp2
      go_ret
      exact ⟨ret_int Hm2.out.symm, HM3.out⟩
    have Hm2 : Hid (mayB l t u = if ho == t then (if o == root then 3 else 2) else look l t u) := Lib.hid (by rw [Hm.out, hn, hr]; rfl)
    have HU := Lib.hid (right_parts hr).2.1
    clear hn hr Hm
    have hbt := sv_beq ho t
    have hbr2 : ((sv o).toList == [114, 111, 111, 116]) = (o == root) := by rw [sv_toList]; rfl
    rcases h1 : ho == t with _ | _
    · have Hres : Hid (mayB l t u = look l t u) := Lib.hid (by rw [Hm2.out, h1]; rfl)
      rw [h1] at hbt
      clear h1 Hm2 hbr2
      go_wp2_with (fail)
      go_loopw [12] (fun i wr => ∃ k : Nat, i = .int .i64 k ∧ k ≤ l.length ∧ Hid (∀ j (hj : j < l.length), j < k → ¬ (l[j].t = t ∧ l[j].w = u)) ∧ Hid (Mod (fun _ => False) w wr)) (fun i _ => l.length - (intOf i).toNat)
      case atStart => exact ⟨0, rfl, by omega, Lib.hid (fun j hj h => by omega), HM3⟩
      case round =>
        obtain ⟨k, rfl, hk, hall, hM⟩ := hrel
        by_cases hlt : k < l.length
        · rcases HA.out with h | ⟨ad, rfl⟩
          · omega
          have hGr := HG.out.new hM.out
          obtain ⟨c0, c1, c2⟩ := hGr.at_ k hlt
          have hq1 : (k : Int) < (l.length : Int) := by omega
          have Hl : Hid (l[k].t = t → l[k].w = u → look l t u = l[k].r) := Lib.hid (fun a b => by rw [← a, ← b]; exact look_mem HU.out (List.getElem_mem hlt))
          have Hn : Hid (¬ (l[k].t = t ∧ l[k].w = u) → ∀ j (hj : j < l.length), j < k + 1 → ¬ (l[j].t = t ∧ l[j].w = u)) := Lib.hid (fun h j hj hjk => by
            rcases Nat.lt_or_ge j k with h1 | h1
            · exact hall.out j hj h1
            · obtain rfl : j = k := by omega
              exact h)
          have e1 := sv_beq l[k].t t
          have e2 := sv_beq l[k].w u
          generalize l[k] = g at *
          clear hGr hall
          rcases b1 : g.t == t with _ | _
          · rw [b1] at e1
            have hl2 := Lib.hid (Hn.out (fun h => by rw [h.1] at b1; simp at b1))
            clear b1 Hl Hn
            go_wp2
            go_roundw
            case rel => exact ⟨k + 1, by go_num, by omega, hl2, hM⟩
            case measure => simp [intOf]; omega
          · rcases b2 : g.w == u with _ | _
            · have hl2 := Lib.hid (Hn.out (fun h => by rw [h.2] at b2; simp at b2))
              rw [b1] at e1
              rw [b2] at e2
              clear b1 b2 Hl Hn
              go_wp2
              go_roundw
              case rel => exact ⟨k + 1, by go_num, by omega, hl2, hM⟩
              case measure => simp [intOf]; omega
            · have hl2 := Lib.hid (Hl.out (by simpa using b1) (by simpa using b2))
              rw [b1] at e1
              rw [b2] at e2
              clear b1 b2 Hl Hn
              go_wp2
              go_ret
              exact ⟨ret_int (by rw [Hres.out, hl2.out]), hM.out⟩
        · obtain rfl : l.length = k := by omega
          have Hz : Hid (look l t u = 0) := Lib.hid (look_no (fun m hm hc => by
            obtain ⟨j, hj, rfl⟩ := List.getElem_of_mem hm
            exact hall.out j hj hj hc))
          clear hall
          go_wp2
          go_ret
          exact ⟨ret_int (by rw [Hres.out, Hz.out]), hM.out⟩
    · rw [h1] at hbt
      rcases h2 : o == root with _ | _
      · have Hres2 : Hid (mayB l t u = 2) := Lib.hid (by rw [Hm2.out, h1, h2]; rfl)
        rw [h2] at hbr2
        clear h1 h2 Hm2
        go_wp2
        go_ret
        exact ⟨ret_int Hres2.out.symm, HM3.out⟩
      · have Hres2 : Hid (mayB l t u = 3) := Lib.hid (by rw [Hm2.out, h1, h2]; rfl)
        rw [h2] at hbr2
        clear h1 h2 Hm2
        go_wp2
        go_ret
        exact ⟨ret_int Hres2.out.symm, HM3.out⟩
end Go.Proofs.Ytpbdcjgconopnaa
