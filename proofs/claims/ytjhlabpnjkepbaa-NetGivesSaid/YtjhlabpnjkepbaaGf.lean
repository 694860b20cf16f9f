/-
  NetGives' walk.
-/
import Derived.Test.YtjhlabpnjkepbaaGe
import Derived.IntWalk
namespace Go.Proofs.Ytjhlabpnjkepbaa
open Go.RowKit Mem
set_option linter.unusedVariables false

/-- Where a text stands, among the first ones. -/
def AtIs (T : List (List UInt8)) (b : List UInt8) (j : Nat) (z : Int) : Prop := (z = -1 ∧ ∀ q, q < j → T[q]? ≠ some b) ∨ ∃ q : Nat, q < j ∧ z = q ∧ T[q]? = some b
theorem bsz (s : ByteArray) : s.data.toList.length = s.size := by simp

set_option maxRecDepth 100000 in
set_option maxHeartbeats 6400000 in
theorem gives_any (a0 : Option Addr) (len0 cap0 : Nat) (ss : List ByteArray) (a1 : Option Addr) (len1 cap1 : Nat) (zs : List Int) (a2 : Option Addr) (len2 cap2 : Nat) (ys : List Int) (w : World) (h0 : IsStrs w a0 len0 cap0 ss) (h1 : IsInts .i64 w a1 len1 cap1 zs) (h2 : IsInts .i64 w a2 len2 cap2 ys) :
    Calls Try.prog 4 #[.slice a0 len0 cap0, .slice a1 len1 cap1, .slice a2 len2 cap2] w fun e w' => e = .returned (.bool true) ∧ Below w.heap.size w w' := by
  have hl0 := h0.len_le
  have hl1 := h1.len_le
  have hl2 := h2.len_le
  unfold maxLen at hl0 hl1 hl2
  have H0 := Lib.hid h0
  have H1 := Lib.hid h1
  have H2 := Lib.hid h2
  clear h0 h1 h2
  have hcv := fun w s => run_bytes_of_string (P := Try.prog) w 9 32 5 s Try.underlying9 Try.underlying32 Try.underlying5
  go_enter Try.func4, Try.ntmps4
  go_wp2_with (fail)
  refine (shown_any w).mono ?_
  rintro e wa ⟨rfl, hma⟩
  go_wp2_with (fail)
  refine (st_new wa).mono ?_
  rintro e w1 ⟨g, rfl, s1'⟩
  have s1 : St wa.heap.size g [] 0 w w1 := ⟨hma.size, hma.trans s1'.2.1 (fun _ h => h.elim), s1'.2.2⟩
  generalize wa.heap.size = B at s1
  clear s1' hma
  have HG0 : Hid (Gv w B g (.slice none 0 0) (TL []) [] w1) := Lib.hid ⟨s1, World.ownsRow_nil _ _ _ _, List.Perm.refl _, by simp, by simp⟩
  clear s1
  go_upto_block 0 with (fail)
  go_cut [9] (fun v wx => Hid (∃ T, T.length ≤ 40 ∧ Gv w B g v (TL T) T wx))
  case first =>
    go_wp2
    go_loopw [9, 10] (fun v i wr => ∃ j : Nat, i = .int .i64 j ∧ j ≤ len0 ∧ j ≤ 40 ∧ Hid (∃ T, T.length = j ∧ Gv w B g v (TL T) T wr)) (fun _ i _ => len0 - (intOf i).toNat)
    case atStart => exact ⟨0, rfl, by omega, by omega, Lib.hid ⟨[], rfl, HG0.out⟩⟩
    case round =>
      obtain ⟨j, rfl, hj, hj4, hG⟩ := hrel
      by_cases hlt : j < len0 ∧ j < 40
      · obtain ⟨T, hT, hG⟩ := hG.out
        obtain ⟨x, s, rfl, hlc, hcm, hc, hs⟩ := H0.out.at_ hG.1.2.1 j hlt.1
        have hlt1 := hlt.1
        have hlt2 := hlt.2
        unfold maxLen at hcm hs
        have HG := Lib.hid hG
        have HT := Lib.hid hT
        clear hG hT hlt
        have hT80 : T.length < 80 := by have := HT.out; omega
        by_cases h200 : (s.size : Int) ≤ 200
        · go_wp2_with (fail)
          refine (st_send_fr (HG.out.1.quiet ((Mod.refl _ wr).alloc _).drew) 1 2 _ s.data.toList (rd_conv wr s _ _ _ _ rfl) (by rw [bsz]; omega) (by decide) (by decide) (by decide) (by decide)).mono ?_
          rintro e w3 ⟨rfl, s3, f3⟩
          obtain ⟨v9, w9, hr9, hg9⟩ := HG.out.step1 ((Mod.refl _ wr).alloc _).drew s3 f3 (by omega) hT80
          have Hg9 : Hid (∃ T, T.length = j + 1 ∧ Gv w B g v9 (TL T) T w9) := Lib.hid ⟨_, by rw [List.length_append, HT.out]; rfl, hg9⟩
          clear s3 f3 hg9
          go_wp2_with (at_builtin; refine wpList_append_run rfl _ _ 41 41 rfl _ _ rfl rfl hr9 ?_)
          go_roundw
          case rel => exact ⟨j + 1, by go_num, by omega, by omega, Hg9⟩
          case measure => simp [intOf]; omega
        · have hex : (s.extract 0 200).size = min 200 s.size := by simp
          have Hex := Lib.hid hex
          clear hex
          go_wp2_with (fail)
          refine (st_send_fr (HG.out.1.quiet ((Mod.refl _ wr).alloc _).drew) 1 2 _ (s.extract 0 200).data.toList (rd_conv wr (s.extract 0 200) _ _ _ _ Hex.out) (by rw [bsz]; have := Hex.out; omega) (by decide) (by decide) (by decide) (by decide)).mono ?_
          rintro e w3 ⟨rfl, s3, f3⟩
          obtain ⟨v9, w9, hr9, hg9⟩ := HG.out.step1 ((Mod.refl _ wr).alloc _).drew s3 f3 (by have := Hex.out; omega) hT80
          have Hg9 : Hid (∃ T, T.length = j + 1 ∧ Gv w B g v9 (TL T) T w9) := Lib.hid ⟨_, by rw [List.length_append, HT.out]; rfl, hg9⟩
          clear s3 f3 hg9
          go_wp2_with (at_builtin; refine wpList_append_run rfl _ _ 41 41 rfl _ _ rfl rfl hr9 ?_)
          go_roundw
          case rel => exact ⟨j + 1, by go_num, by omega, by omega, Hg9⟩
          case measure => simp [intOf]; omega
      · have hx : ¬ j < len0 ∨ (j < len0 ∧ ¬ j < 40) := by omega
        have HG1 : Hid (∃ T, T.length ≤ 40 ∧ Gv w B g u9 (TL T) T wr) := by
          obtain ⟨T, hT, hG⟩ := hG.out
          exact Lib.hid ⟨T, by omega, hG⟩
        clear hlt hG hcv
        rcases hx with hx1 | ⟨hx1, hx2⟩
        all_goals
          go_wp2
          go_meet
          case rel => exact HG1
  case rest =>
    clear hcv HG0 H0
    have HG0 := hcut
    clear hcut
    go_upto_block 2 with (fail)
    go_cut [9] (fun v wx => Hid (∃ T, T.length ≤ 80 ∧ Gv w B g v (TL T) T wx))
    case first =>
      go_wp2
      go_loopw [9, 12] (fun v i wr => ∃ j : Nat, i = .int .i64 j ∧ j ≤ len1 ∧ j ≤ 40 ∧ Hid (∃ T, T.length ≤ 40 + j ∧ Gv w B g v (TL T) T wr)) (fun _ i _ => len1 - (intOf i).toNat)
      case atStart => exact ⟨0, rfl, by omega, by omega, HG0⟩
      case round =>
        obtain ⟨j, rfl, hj, hj4, hG⟩ := hrel
        by_cases hlt : j < len1 ∧ j < 40
        · obtain ⟨T, hT, hG⟩ := hG.out
          obtain ⟨x, z, rfl, hlc, hcm, hc, hz⟩ := H1.out.at_ hG.1.2.1 j hlt.1
          have hlt1 := hlt.1
          have hlt2 := hlt.2
          unfold maxLen at hcm
          have hT80 : T.length < 80 := by omega
          have HG := Lib.hid hG
          have HT := Lib.hid hT
          clear hG hT hlt hz
          go_wp2_with (fail)
          refine (st_look HG.out.1 (fun l hl => (HG.out.good l hl).1) z).mono ?_
          rintro e w3 ⟨s3, hm3, v3, rfl, hby⟩
          have hc3 : w3.cell? (x.add j) = some (.int .i64 z) := cell_mod hm3 hc (fun h => h)
          have Hm3 := Lib.hid hm3
          have S3 := Lib.hid s3
          have Hby := Lib.hid hby
          clear hm3 s3 hby
          go_wp2_with (fail)
          refine (st_copy_fr S3.out (fun l hl => (HG.out.good l hl).1) z).mono ?_
          rintro e w4 ⟨rfl, s4, f4⟩
          rw [copyOk_TL T z hT80]
          by_cases hok : hasOk (TL T) z = true
          · obtain ⟨v9, w9, hr9, hg9⟩ := HG.out.step2 Hm3.out s4 f4 hok hT80
            have Hg9 : Hid (∃ U, U.length ≤ 40 + (j + 1) ∧ Gv w B g v9 (TL U) U w9) := Lib.hid ⟨_, by rw [List.length_append]; have := HT.out; simp; omega, hg9⟩
            have hby4 : By w4 wr.heap.size v3 (rl (TL T) z).b := own_fr Hby.out f4 (by decide) (by decide)
            have ht := rd_text hby4.rd
            rw [hok]
            clear s4 f4 hg9 hok hby4
            go_wp2_with (at_builtin; refine wpList_append_run rfl _ _ 41 41 rfl _ _ rfl rfl hr9 ?_)
            go_roundw
            case rel => exact ⟨j + 1, by go_num, by omega, by omega, Hg9⟩
            case measure => simp [intOf]; omega
          · have hok' : hasOk (TL T) z = false := by simpa using hok
            rw [copied_no hok'] at s4
            have Hg9 : Hid (∃ U, U.length ≤ 40 + (j + 1) ∧ Gv w B g u9 (TL U) U w4) := Lib.hid ⟨T, by have := HT.out; omega, (HG.out.quiet Hm3.out).fr s4 f4 (List.Perm.refl _)⟩
            rw [hok']
            clear s4 f4 hok hok'
            go_wp2
            go_roundw
            case rel => exact ⟨j + 1, by go_num, by omega, by omega, Hg9⟩
            case measure => simp [intOf]; omega
        · have hx : ¬ j < len1 ∨ (j < len1 ∧ ¬ j < 40) := by omega
          have HG1 : Hid (∃ T, T.length ≤ 80 ∧ Gv w B g u9 (TL T) T wr) := by
            obtain ⟨T, hT, hG⟩ := hG.out
            exact Lib.hid ⟨T, by omega, hG⟩
          clear hlt hG
          rcases hx with hx1 | ⟨hx1, hx2⟩
          all_goals
            go_wp2
            go_meet
            case rel => exact HG1
    case rest =>
      clear HG0 H1
      have HG0 := hcut
      clear hcut
      go_upto_block 4 with (fail)
      go_cut [] (fun wx => Hid (∃ L T, Gv w B g u9 L T wx))
      case first =>
        go_wp2
        go_loopw [17] (fun i wr => ∃ j : Nat, i = .int .i64 j ∧ j ≤ 81 ∧ Hid (∃ L T, Gv w B g u9 L T wr)) (fun i _ => 100 - (intOf i).toNat)
        case atStart =>
          refine ⟨0, rfl, by omega, Lib.hid ?_⟩
          obtain ⟨T, _, hG⟩ := HG0.out
          exact ⟨_, T, hG⟩
        case round =>
          obtain ⟨j, rfl, hj, hG⟩ := hrel
          by_cases hlt : j + 1 < len2 ∧ j < 80
          · obtain ⟨L, T, hG⟩ := hG.out
            obtain ⟨x, y, hx1, hlc, hcm, hc, hz⟩ := H2.out.at_ hG.1.2.1 j (by omega)
            obtain ⟨x', z, hx2, _, _, hc', hz'⟩ := H2.out.at_ hG.1.2.1 (j + 1) (by omega)
            obtain rfl : x = x' := by rw [hx1] at hx2; exact Option.some.inj hx2
            subst hx1
            have hlt1 := hlt.1
            have hlt2 := hlt.2
            unfold maxLen at hcm
            have hq1 : (j : Int) + 1 < (len2 : Int) := by omega
            have hq0 : (j : Int) < (len2 : Int) := by omega
            have hq4 : (0 : Int) ≤ (j : Int) := by omega
            have hq5 : (0 : Int) ≤ (j : Int) + 1 := by omega
            have hq2 : IntKind.i64.wrap ((j : Int) + 1) = (j : Int) + 1 := by rw [IntKind.wrap_i64]; omega
            have hq3 : ((j : Int) + 1).toNat = j + 1 := by omega
            have hc2 : wr.cell? ⟨x.block, x.off + (j + 1), none⟩ = some (.int .i64 z) := by simpa [Addr.add] using hc'
            have HG := Lib.hid hG
            clear hG hlt hz hz' hx2
            go_wp2
            refine still_tail 10 (by kernel_rfl) (by kernel_rfl) ?_
            simp only [List.take_succ_cons, List.take_zero, List.drop_succ_cons, List.drop_zero]
            repeat still_step
            refine wpStill_nil ?_
            go_wp2_with (fail)
            refine (st_move_fr (HG.out.1.quiet ((Mod.refl _ wr).drew)) y z).mono ?_
            rintro e w3 ⟨rfl, s3, f3⟩
            have Hg9 : Hid (∃ L T, Gv w B g u9 L T w3) := Lib.hid ⟨_, T, (HG.out.quiet ((Mod.refl _ wr).drew)).fr s3 f3 (moved_perm L y z)⟩
            clear s3 f3 hq2
            go_wp2
            go_roundw
            case rel => exact ⟨j + 2, by go_num, by omega, Hg9⟩
            case measure => simp [intOf]; omega
          · have hx : ¬ j + 1 < len2 ∨ (j + 1 < len2 ∧ ¬ j < 80) := by omega
            clear hlt
            rcases hx with hx1 | ⟨hx1, hx2⟩
            all_goals
              go_wp2
              go_meet
              case rel => exact hG
      case rest =>
        clear HG0 H2
        have HG0 := hcut
        clear hcut
        obtain ⟨L0, T0, hG0⟩ := HG0.out
        have hlen0 := hG0.len
        obtain ⟨A0, c0, hv0, _⟩ := hG0.form
        have hT0 := hG0.2.2.2.2
        subst hv0
        go_wp2_with (fail)
        refine (st_len hG0.1).mono ?_
        rintro e _ ⟨rfl, rfl⟩
        rw [hlen0]
        have HG1 := Lib.hid hG0
        clear hG0 HG0 hlen0
        go_wp2
        go_loopw [9] (fun v wr => Hid (∃ L T, Gv w B g v L T wr)) (fun v _ => slen v)
        case atStart => exact Lib.hid ⟨L0, T0, HG1.out⟩
        case round =>
          obtain ⟨L, T, hG⟩ := hrel.out
          have hlen := hG.len
          obtain ⟨A, c, hv, hA⟩ := hG.form
          have hT80 := hG.2.2.2.2
          have hTb := hG.2.2.2.1
          subst hv
          by_cases hn : T.length = 0
          · have hz : ((L.length : Nat) : Int) = 0 := by omega
            go_wp2_with (fail)
            refine (st_len hG.1).mono ?_
            rintro e _ ⟨rfl, rfl⟩
            rw [hz]
            have hfin : Below w.heap.size w wr := hG.1.2.1.below_of (Nat.le_refl _) (fun _ h => h.elim)
            have Hfin := Lib.hid hfin
            rw [hn]
            clear hfin hG hrel hlen hz hTb
            go_wp2
            go_ret
            exact ⟨rfl, Hfin.out⟩
          · obtain ⟨m, hm⟩ : ∃ m, T.length = m + 1 := ⟨T.length - 1, by omega⟩
            have hlm : ((L.length : Nat) : Int) = ((m : Nat) : Int) + 1 := by omega
            rcases hA with h | ⟨r, rfl⟩
            · omega
            have HG := Lib.hid hG
            have HL := Lib.hid hlm
            have HTb := Lib.hid hTb
            have HM := Lib.hid hm
            rw [hm]
            clear hG hrel hlen hlm hTb hn HG1
            have hmb : m < 80 := by omega
            clear hm
            go_wp2_with (fail)
            refine (st_len HG.out.1).mono ?_
            rintro e _ ⟨rfl, rfl⟩
            rw [HL.out]
            go_wp2_with (fail)
            refine (st_len HG.out.1).mono ?_
            rintro e _ ⟨rfl, rfl⟩
            rw [HL.out]
            go_wp2_with (fail)
            refine (st_take_fr HG.out.1 HG.out.good (m : Int)).mono ?_
            intro e w3 htook
            have htook := HG.out.took HM.out htook
            obtain ⟨b, v3, L', rfl, hby, hbT, s3, ho3, hp3⟩ := htook
            rw [HM.out] at ho3
            obtain ⟨_, hmc, hcm, _, hrow, _⟩ := row_at ho3
            have hby3 := fun n => rd_text (Rd.mod hby.rd ((Mod.refl (fun _ => False) w3).drewN n) (fun _ _ h => h))
            have Hby := Lib.hid hby3
            have Hrow := Lib.hid hrow
            have S3 := Lib.hid s3
            have Hp3 := Lib.hid hp3
            have Hb := Lib.hid hbT
            have Ho3 := Lib.hid ho3
            have Hat0 : Hid (AtIs T b 0 (-1)) := Lib.hid (.inl ⟨rfl, fun q hq => by omega⟩)
            have Hdr0 : Hid (Dr w3 w3) := Lib.hid (Dr.refl _)
            unfold maxLen at hcm
            clear hby3 hby hrow s3 hp3 hbT ho3 HG
            go_wp2
            go_loopw [22, 23] (fun a i wx => ∃ (j : Nat) (z : Int), i = .int .i64 j ∧ a = .int .i64 z ∧ j ≤ m + 1 ∧ Hid (AtIs T b j z) ∧ Hid (Dr w3 wx)) (fun _ i _ => m + 1 - (intOf i).toNat)
            case atStart => exact ⟨0, -1, rfl, rfl, by omega, Hat0, Hdr0⟩
            case round =>
              obtain ⟨j, z, rfl, rfl, hj, hat, hdr⟩ := hrel
              by_cases hlt : j < m + 1
              · have hTj : j < T.length := by rw [HM.out]; exact hlt
                have cj : wr.cell? ⟨r, j, none⟩ = some (.string ⟨(T[j]'hTj).toArray⟩) := by
                  have h1 := Hrow.out j (.string ⟨(T[j]'hTj).toArray⟩) (by simp [strs, hTj])
                  obtain ⟨k, hk⟩ := hdr.out
                  rw [← hk]
                  exact h1
                have hcnv : ∀ n, (convert 32 9 v3).run Try.prog (wr.drewN n) = .ok (.string ⟨b.toArray⟩) (wr.drewN n) := by
                  obtain ⟨k, hk⟩ := hdr.out
                  intro n
                  rw [← hk, World.drewN_drewN]
                  exact Hby.out _
                have hqj : T[j]? = some (T[j]'hTj) := List.getElem?_eq_getElem hTj
                by_cases heq : T[j]'hTj = b
                · rw [heq] at cj hqj
                  have Hat1 : Hid (AtIs T b (j + 1) (j : Int)) := Lib.hid (.inr ⟨j, by omega, rfl, hqj⟩)
                  clear hTj heq hqj hat
                  go_wp2
                  go_quiet (fail)
                  go_wp2
                  go_roundw
                  case rel => exact ⟨j + 1, j, by go_num, rfl, by omega, Hat1, Lib.hid (hdr.out.step _)⟩
                  case measure => simp [intOf]; omega
                · have Hat1 : Hid (AtIs T b (j + 1) z) := Lib.hid (by
                    rcases hat.out with ⟨h1, h2⟩ | ⟨q, h1, h2, h3⟩
                    · refine .inl ⟨h1, fun q hq => ?_⟩
                      rcases Nat.lt_or_ge q j with h | h
                      · exact h2 q h
                      · obtain rfl : q = j := by omega
                        rw [hqj]
                        simpa using heq
                    · exact .inr ⟨q, by omega, h2, h3⟩)
                  obtain ⟨sj, hsj⟩ : ∃ sj, (⟨(T[j]'hTj).toArray⟩ : ByteArray) = sj := ⟨_, rfl⟩
                  obtain ⟨sb, hsb⟩ : ∃ sb, (⟨b.toArray⟩ : ByteArray) = sb := ⟨_, rfl⟩
                  have hne : ¬ sj = sb := by
                    rw [← hsj, ← hsb]
                    intro h
                    apply heq
                    injection h with h
                    simpa using h
                  rw [hsj] at cj
                  simp only [hsb] at hcnv
                  have hne1 : (sj.toList == sb.toList) = false := by
                    rw [ByteArray.toList_eq, ByteArray.toList_eq]
                    simpa using (fun h : sj.data.toList = sb.data.toList => hne (by cases sj; cases sb; congr 1; exact Array.toList_inj.1 h))
                  clear hTj heq hqj hat hsj hsb
                  go_wp2
                  go_quiet (fail)
                  go_wp2
                  go_roundw
                  case rel => exact ⟨j + 1, z, by go_num, rfl, by omega, Hat1, Lib.hid ((hdr.out.step _))⟩
                  case measure => simp [intOf]; omega
              · obtain rfl : m + 1 = j := by omega
                obtain ⟨q, hq, rfl, hqT⟩ : ∃ q : Nat, q < m + 1 ∧ z = q ∧ T[q]? = some b := by
                  rcases hat.out with ⟨_, h2⟩ | h
                  · obtain ⟨q, hq, hqb⟩ := List.getElem_of_mem Hb.out
                    exact absurd (by rw [← hqb]; exact List.getElem?_eq_getElem hq) (h2 q (by have := HM.out; omega))
                  · exact h
                have hmw : Mod (fun _ => False) w3 wr := hdr.out.mod
                have hrow2 : ∀ p u, (strs T)[p]? = some u → wr.cell? ⟨r, p, none⟩ = some u := fun p u hu => cell_mod hmw (Hrow.out p u hu) (fun h => h)
                obtain ⟨A1, k1, u1, A2, k2, u2, hr1, hr2, ho2, hM1, hM2, hs2⟩ := el9.cut wr r m q c (q + 1) (strs T) (by rw [strs_len, HM.out, Nat.mul_one]) hrow2 (strs_one T) (by omega) hmc (by omega) (by unfold maxLen; omega) (by omega)
                have Hgv : Hid (∃ L T, Gv w B g (.slice A2 m k2) L T u2) := Lib.hid ⟨L', _, gv_cut (S3.out.quiet hmw) Hp3.out HM.out hT80 HTb.out hqT hM2 ho2⟩
                have hq1 : (q : Int) ≤ (c : Int) := by omega
                have hq2 : (q : Int) + 1 ≤ (m : Int) + 1 := by omega
                have hq3 : (0 : Int) ≤ (q : Int) + 1 := by omega
                have hq4 : ((q : Int) + 1).toNat = q + 1 := by omega
                have hq5 : (m : Int) + 1 ≤ (c : Int) := by omega
                have hq6 : (0 : Int) ≤ (q : Int) := by omega
                have hw1 : IntKind.i64.wrap ((q : Int) + 1) = (q : Int) + 1 := by rw [IntKind.wrap_i64]; omega
                obtain ⟨Ad, hAd⟩ : ∃ Ad : Option Addr, (if c = q + 1 then (some ⟨r, 0, none⟩ : Option Addr) else some ⟨r, q + 1, none⟩) = Ad := ⟨_, rfl⟩
                rw [hAd] at hr2
                have Hr1 := Lib.hid hr1
                have Hr2 := Lib.hid hr2
                clear hr1 hr2 hM1 hM2 ho2 hrow2 hmw hat hqT hlt
                go_wp2
                go_region_law (first | (refine step_append_run rfl _ _ 41 41 rfl _ _ (by simp [Act.eval]) (by simp [Act.eval]) Hr1.out ?_) | (refine step_append_run rfl _ _ 41 41 rfl _ _ (by simp [Act.eval]) (by simp [Act.eval]) Hr2.out ?_))
                all_goals
                  go_wp2
                  go_roundw
                  case rel => ((repeat apply Exists.intro); exact ⟨Hgv, rfl⟩)
                  case measure => show m < m + 1; omega
end Go.Proofs.Ytjhlabpnjkepbaa
