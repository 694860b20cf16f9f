/-
  AclHome's walk.
-/
import Derived.Test.YtpbdcjgconopnaaSh
import Derived.Test.YtpbdcjgconopnaaPh
import Derived.Laws.Concat
namespace Go.Proofs.Ytpbdcjgconopnaa
open Go.RowKit Mem
set_option linter.unusedVariables false

theorem sv_slash (x o : Bs) : sv x ++ ⟨#[47]⟩ ++ sv o = sv (x ++ 47 :: o) := by
  apply ByteArray.ext
  simp [sv]

set_option maxRecDepth 100000 in
set_option maxHeartbeats 6400000 in
theorem home_any (v : Value) (l : List Gr) (t o x : Bs) (w : World) (h : Gs w v l) (hg : Goks l) : Calls Try.prog 4 #[v, .string (sv t), .string (sv o), .string (sv x)] w (Same' true w) := by
  obtain ⟨A, c, rfl, hlc, hcm, hA⟩ := h.form
  unfold maxLen at hcm
  have HA := Lib.hid hA
  have HG := Lib.hid h
  have HK := Lib.hid hg
  clear hA h hg
  go_enter Try.func4, Try.ntmps4
  go_wp2_with (fail)
  refine (shown_any w).mono ?_
  rintro e w1 ⟨rfl, hm1⟩
  have HM1 := Lib.hid hm1
  clear hm1
  by_cases h200 : (200 : Int) < (l.length : Int)
  · go_wp2
    go_ret
    exact ⟨rfl, HM1.out⟩
  go_wp2_with (fail)
  refine (right_b w1 (HG.out.new HM1.out) HK.out (b := rightB l) rfl).mono ?_
  rintro e w2 ⟨rfl, hm2⟩
  have HM2 : Hid (Mod (fun _ => False) w w2) := Lib.hid (HM1.out.trans hm2 (fun _ h => h.elim))
  clear hm2 HM1
  rcases hr : rightB l with _ | _
  · clear hr
    go_wp2
    go_ret
    exact ⟨rfl, HM2.out⟩
  have Hr := Lib.hid hr
  clear hr
  go_wp2_with (fail)
  refine (name_b (l := t) rfl w2).mono ?_
  rintro e w3 ⟨rfl, hm3⟩
  have HM3 : Hid (Mod (fun _ => False) w w3) := Lib.hid (HM2.out.trans hm3 (fun _ h => h.elim))
  clear hm3 HM2
  rcases ht : nm t with _ | _
  · clear ht
    go_wp2
    go_ret
    exact ⟨rfl, HM3.out⟩
  have Ht := Lib.hid ht
  clear ht
  go_wp2_with (fail)
  refine (name_b (l := o) rfl w3).mono ?_
  rintro e w4 ⟨rfl, hm4⟩
  have HM4 : Hid (Mod (fun _ => False) w w4) := Lib.hid (HM3.out.trans hm4 (fun _ h => h.elim))
  clear hm4 HM3
  rcases ho : nm o with _ | _
  · clear ho
    go_wp2
    go_ret
    exact ⟨rfl, HM4.out⟩
  have Ho := Lib.hid ho
  clear ho
  go_wp2_with (fail)
  refine (name_b (l := x) rfl w4).mono ?_
  rintro e w5 ⟨rfl, hm5⟩
  have HM5 : Hid (Mod (fun _ => False) w w5) := Lib.hid (HM4.out.trans hm5 (fun _ h => h.elim))
  clear hm5 HM4
  rcases hx : nm x with _ | _
  · clear hx
    go_wp2
    go_ret
    exact ⟨rfl, HM5.out⟩
  have Hx := Lib.hid hx
  clear hx
  obtain ⟨want, hwant⟩ : ∃ want : Int, (if o == root then (3 : Int) else 2) = want := ⟨_, rfl⟩
  have hroot : ((sv o).toList == [114, 111, 111, 116]) = (o == root) := by rw [sv_toList]; rfl
  have Hwant := Lib.hid hwant
  have s1 : ((sv x).size : Int) ≤ 8388608 := by have := nm_le Hx.out; rw [sv_size]; omega
  have s2 : ((sv t).size : Int) ≤ 8388608 := by have := nm_le Ht.out; rw [sv_size]; omega
  have s3 : ((sv o).size : Int) ≤ 8388608 := by have := nm_le Ho.out; rw [sv_size]; omega
  have s4 : ((sv x ++ ⟨#[47]⟩).size : Int) ≤ 8388608 := by have := nm_le Hx.out; rw [ByteArray.size_append, sv_size]; show ((x.length + 1 : Nat) : Int) ≤ _; omega
  have s5 : ((sv t ++ ⟨#[47]⟩).size : Int) ≤ 8388608 := by have := nm_le Ht.out; rw [ByteArray.size_append, sv_size]; show ((t.length + 1 : Nat) : Int) ≤ _; omega
  have j1 := sv_slash x o
  have j2 := sv_slash t o
  clear hwant
  have Hhome : Hid (mayB l t (t ++ 47 :: o) = want) := Lib.hid (by rw [may_home Hr.out Ht.out Ho.out]; exact Hwant.out)
  have Haway : Hid (mayB l t (x ++ 47 :: o) = if x == t then want else last l t (x ++ 47 :: o) l.length) := Lib.hid (by rw [may_away Hr.out Ht.out Ho.out Hx.out, ← Hwant.out]; rfl)
  have l1 : Hid ((t ++ 47 :: o).length ≤ 9223372036854775807) := Lib.hid (by have := nm_le Ht.out; have := nm_le Ho.out; simp; omega)
  have l2 : Hid ((x ++ 47 :: o).length ≤ 9223372036854775807) := Lib.hid (by have := nm_le Hx.out; have := nm_le Ho.out; simp; omega)
  have t0 : decide ((200 : Int) < (l.length : Int)) = false := decide_eq_false (by omega)
  obtain ⟨bx, hbx⟩ : ∃ bx, (x == t) = bx := ⟨_, rfl⟩
  have e3 := sv_beq x t
  rw [hbx] at Haway e3
  clear hbx
  generalize t ++ 47 :: o = tq at *
  generalize x ++ 47 :: o = xo at *
  have HM5' : ∀ wr, Hid (Mod (fun _ => False) w5 wr) → Hid (Mod (fun _ => False) w wr) := fun wr h => Lib.hid (HM5.out.trans h.out (fun _ h => h.elim))
  have H0 : Hid (Mod (fun _ => False) w5 w5) := Lib.hid (Mod.refl _ _)
  rcases hb : o == root with _ | _
  all_goals
    rw [hb] at hroot Hwant
    first | (obtain rfl : 2 = want := Hwant.out) | (obtain rfl : 3 = want := Hwant.out)
    clear hb Hwant
    go_wp2_with (fail)
    go_loopw [11, 12] (fun n i wr => ∃ (k : Nat) (z : Int), i = .int .i64 k ∧ n = .int .i64 z ∧ Hid (z = last l t xo k) ∧ k ≤ l.length ∧ Hid (Mod (fun _ => False) w wr)) (fun _ i _ => l.length - (intOf i).toNat)
    case atStart => exact ⟨0, 0, rfl, rfl, Lib.hid rfl, by omega, HM5⟩
    case round =>
      obtain ⟨k, z, rfl, rfl, hz, hk, hM⟩ := hrel
      by_cases hlt : k < l.length
      · rcases HA.out with h | ⟨ad, rfl⟩
        · omega
        have hGr := HG.out.new hM.out
        obtain ⟨c0, c1, c2⟩ := hGr.at_ k hlt
        rw [← getElem!_pos l k hlt] at c0 c1 c2
        have hq1 : (k : Int) < (l.length : Int) := by omega
        have hl : Hid (last l t xo (k + 1) = if l[k]!.t == t && l[k]!.w == xo then l[k]!.r else last l t xo k) := Lib.hid rfl
        have e1 := sv_beq l[k]!.t t
        have e2 := sv_beq l[k]!.w xo
        generalize l[k]! = g at *
        clear hGr
        rcases b1 : g.t == t with _ | _
        · rw [b1] at e1
          have hl2 : Hid (z = last l t xo (k + 1)) := Lib.hid (by rw [hl.out, b1]; exact hz.out)
          clear b1
          go_wp2
          go_roundw
          case rel => exact ⟨k + 1, z, by go_num, rfl, hl2, by omega, hM⟩
          case measure => simp [intOf]; omega
        · rw [b1] at e1
          rcases b2 : g.w == xo with _ | _
          · rw [b2] at e2
            have hl2 : Hid (z = last l t xo (k + 1)) := Lib.hid (by rw [hl.out, b1, b2]; exact hz.out)
            clear b1 b2
            go_wp2
            go_roundw
            case rel => exact ⟨k + 1, z, by go_num, rfl, hl2, by omega, hM⟩
            case measure => simp [intOf]; omega
          · rw [b2] at e2
            have hl2 : Hid (g.r = last l t xo (k + 1)) := Lib.hid (by rw [hl.out, b1, b2]; rfl)
            clear b1 b2
            go_wp2
            go_roundw
            case rel => exact ⟨k + 1, g.r, by go_num, rfl, hl2, by omega, hM⟩
            case measure => simp [intOf]; omega
      · obtain rfl : l.length = k := by omega
        clear H0 HM5'
        rcases bx with _ | _
        · go_wp2_with (fail)
          refine (may_b t tq wr (HG.out.new hM.out) HK.out l1.out Hhome.out).mono ?_
          rintro e w6 ⟨rfl, hm6⟩
          have HM6 : Hid (Mod (fun _ => False) w w6) := Lib.hid (hM.out.trans hm6 (fun _ h => h.elim))
          clear hm6
          go_wp2_with (fail)
          refine (may_b t xo w6 (HG.out.new HM6.out) HK.out l2.out (x := z) (by rw [Haway.out]; exact hz.out.symm)).mono ?_
          rintro e w7 ⟨rfl, hm7⟩
          have HM7 : Hid (Mod (fun _ => False) w w7) := Lib.hid (HM6.out.trans hm7 (fun _ h => h.elim))
          clear hm7
          go_wp2
          go_ret
          exact ⟨rfl, HM7.out⟩
        · go_wp2_with (fail)
          refine (may_b t tq wr (HG.out.new hM.out) HK.out l1.out Hhome.out).mono ?_
          rintro e w6 ⟨rfl, hm6⟩
          have HM6 : Hid (Mod (fun _ => False) w w6) := Lib.hid (hM.out.trans hm6 (fun _ h => h.elim))
          clear hm6
          go_wp2_with (fail)
          refine (may_b t xo w6 (HG.out.new HM6.out) HK.out l2.out Haway.out).mono ?_
          rintro e w7 ⟨rfl, hm7⟩
          have HM7 : Hid (Mod (fun _ => False) w w7) := Lib.hid (HM6.out.trans hm7 (fun _ h => h.elim))
          clear hm7
          go_wp2
          go_ret
          exact ⟨rfl, HM7.out⟩
end Go.Proofs.Ytpbdcjgconopnaa
