/-
  NetMoves' walk.
-/
import Derived.Test.YtjhlabpnjkepbaaSc
import Derived.IntWalk
namespace Go.Proofs.Ytjhlabpnjkepbaa
open Go.RowKit Mem
set_option linter.unusedVariables false

theorem lets_range_succ (j : Nat) : lets (List.range (j + 1)) = lets (List.range j) ++ [⟨1, 2, [UInt8.ofNat j]⟩] := by
  rw [List.range_succ]; simp [lets]
theorem ints_range_succ (j : Nat) : ints (List.range (j + 1)) = ints (List.range j) ++ [.int .i64 (j : Int)] := by
  rw [List.range_succ]; simp [ints]
theorem sent_range (j : Nat) (hj : j < 60) : sent (lets (List.range j)) 1 2 [UInt8.ofNat j] = lets (List.range (j + 1)) := by
  rw [lets_range_succ]
  unfold sent
  rw [if_pos ⟨by decide, by decide, by decide, by decide, by simp [lets]; omega⟩]

/-- Where the sent letters and the wanted numbers stand. -/
def Wanted (w : World) (B g : Nat) (v : Value) (Z : List Nat) (wr : World) : Prop := St B g (lets Z) 0 w wr ∧ wr.ownsRow w.heap.size 3 1 v Z.length (ints Z)

theorem ends_of2 {B g s : Nat} {L : List Let} {w w' : World} (h : St B g L s w w') : Below w.heap.size w w' := h.2.1.below_of (Nat.le_refl _) (fun _ h => h.elim)
theorem int_after1 {W w8 : World} {cs : Array Value} (h : Mod (fun b => b = W.heap.size) ((W.alloc (.cells #[] 3)).alloc (.cells cs 3)).drew w8) : Blk w8 (W.alloc (.cells #[] 3)).heap.size cs 3 :=
  (Blk.new (W.alloc (.cells #[] 3)) cs 3).drew.mod h (by simp)
theorem int_after2 {W w8 : World} {cs : Array Value} (h : Mod (fun b => b = (W.alloc (.cells cs 3)).heap.size) ((W.alloc (.cells cs 3)).alloc (.cells #[] 3)).drew w8) : Blk w8 W.heap.size cs 3 :=
  ((Blk.new W cs 3).alloc _).drew.mod h (by simp)
theorem mv_lt {N I K : Nat} (hN : N < 60) (hI : I < N) : ∀ z ∈ mv (List.range N) I K, z < 60 := by
  intro z hz
  have hr : ∀ y ∈ (List.range N).take I ++ (List.range N).drop (I + 1), y < 60 := fun y hy => by
    rcases List.mem_append.1 hy with h | h
    · have := List.mem_range.1 (List.mem_of_mem_take h); omega
    · have := List.mem_range.1 (List.mem_of_mem_drop h); omega
  unfold mv at hz
  rcases List.mem_append.1 hz with h | h
  · rcases List.mem_append.1 h with h | h
    · exact hr z (List.mem_of_mem_take h)
    · simp at h; omega
  · exact hr z (List.mem_of_mem_drop h)
/-- What the last loop reads at one number. -/
theorem wanted_at {w wr w3 : World} {B g r c j N : Nat} {Z : List Nat} {v3 : Value} (hW : Wanted w B g (.slice (some ⟨r, 0, none⟩) N c) Z wr) (hZ : Z.length = N) (hZb : ∀ z ∈ Z, z < 60) (hj : j < N) (hm : Mod (fun _ => False) wr w3) (hby : By w3 wr.heap.size v3 (rl (lets Z) j).b) :
    hasOk (lets Z) j = true ∧ N ≤ c ∧ c ≤ maxLen ∧ ∃ g3 k3, ∃ z : Nat, z < 60 ∧ v3 = .slice (some ⟨g3, 0, none⟩) 1 k3 ∧ 1 ≤ k3 ∧ w3.cell? ⟨g3, 0, none⟩ = some (.int .u8 (z : Int)) ∧ w3.cell? ⟨r, j, none⟩ = some (.int .i64 (z : Int)) := by
  have hll : (lets Z).length = N := by simp [lets, hZ]
  have hok : hasOk (lets Z) j = true := by unfold hasOk; rw [decide_eq_true]; rw [hll]; omega
  have hr : (rl (lets Z) j).b = [UInt8.ofNat (Z[j]'(by omega))] := by
    unfold rl
    rw [if_pos hok]
    simp [lets, show j < Z.length by omega]
  rw [hr] at hby
  have hz := hZb _ (List.getElem_mem (show j < Z.length by omega))
  have hown := hW.2
  rw [hZ] at hown
  obtain ⟨_, hnc, hcm, hrow⟩ := ints_row hown
  refine ⟨hok, hnc, hcm, ?_⟩
  have hby' := hby.rd
  rcases own_cases hby with ⟨_, h, _⟩ | ⟨g3, k3, cur, rfl, _, hB3, hk3, _, _, _⟩
  · simp at h
  rcases hby' with ⟨h, _⟩ | ⟨ad, c', hv, hc⟩
  · cases h
  injection hv with e1 _ _
  injection e1 with e1
  subst e1
  have h0 := hc 0 (.int .u8 ((UInt8.ofNat (Z[j]'(by omega))).toNat : Int)) rfl
  rw [Addr.add_lit] at h0
  have hzz : (UInt8.ofNat (Z[j]'(by omega))).toNat = Z[j]'(by omega) := by simp; omega
  rw [hzz] at h0
  refine ⟨g3, k3, Z[j]'(by omega), hz, rfl, hk3, h0, cell_mod hm (hrow j _ ?_) (fun h => h)⟩
  simp [ints, show j < Z.length by omega]
theorem wanted_form {w wr : World} {B g N : Nat} {v : Value} {Z : List Nat} (hW : Wanted w B g v Z wr) (hZ : Z.length = N) : N = 0 ∨ ∃ r c, v = .slice (some ⟨r, 0, none⟩) N c := by
  rcases own_cases hW.2 with ⟨_, h, _⟩ | ⟨g', cap, cur, rfl, _⟩
  · exact .inl (by omega)
  · exact .inr ⟨g', cap, by rw [hZ]⟩

set_option maxRecDepth 100000 in
set_option maxHeartbeats 6400000 in
theorem moves_any (a0 i k : Int) (w : World) (h0 : -9223372036854775808 ≤ a0) (h0' : a0 ≤ 9223372036854775807) (hi : -9223372036854775808 ≤ i) (hi' : i ≤ 9223372036854775807) (hk : -9223372036854775808 ≤ k) (hk' : k ≤ 9223372036854775807) :
    Calls Try.prog 6 #[.int .i64 a0, .int .i64 i, .int .i64 k] w fun e w' => e = .returned (.bool true) ∧ Below w.heap.size w w' := by
  go_enter Try.func6, Try.ntmps6
  go_wp2_with (fail)
  refine (shown_any w).mono ?_
  rintro e wa ⟨rfl, hma⟩
  go_wp2_with (fail)
  refine (st_new wa).mono ?_
  rintro e w1 ⟨g, rfl, s1'⟩
  have s1 : St wa.heap.size g [] 0 w w1 := ⟨hma.size, hma.trans s1'.2.1 (fun _ h => h.elim), s1'.2.2⟩
  generalize wa.heap.size = B at s1
  clear s1' hma
  have S1 := Lib.hid s1
  clear s1
  go_upto_if 28 with (fail)
  go_cut [0] (fun v wx => ∃ n0 : Int, v = .int .i64 n0 ∧ 0 ≤ n0 ∧ n0 ≤ 9223372036854775807 ∧ w1 = wx)
  case first =>
    by_cases hneg : a0 < 0
    · go_wp2
      go_meet
      case rel => exact ⟨_, rfl, by omega, by omega, rfl⟩
    · go_wp2
      go_meet
      case rel => exact ⟨_, rfl, by omega, by omega, rfl⟩
  case rest =>
    obtain ⟨n0, rfl, hn1, hn2, rfl⟩ := hcut
    obtain ⟨N, hN⟩ := Int.eq_ofNat_of_zero_le (Int.emod_nonneg n0 (show (60 : Int) ≠ 0 by omega))
    have hNb : N < 60 := by have := Int.emod_lt_of_pos n0 (show (0 : Int) < 60 by omega); omega
    go_wp2
    rw [hN]
    clear hN
    have W0 : Wanted w B g (.slice none 0 0) (List.range 0) w1 := ⟨S1.out, World.ownsRow_nil _ _ _ _⟩
    have HW0 := Lib.hid W0
    clear S1 W0
    go_loopw [9, 10] (fun v i wr => ∃ j : Nat, i = .int .i64 j ∧ j ≤ N ∧ Hid (Wanted w B g v (List.range j) wr)) (fun _ i _ => N - (intOf i).toNat)
    case atStart => exact ⟨0, rfl, by omega, HW0⟩
    case round =>
      obtain ⟨j, rfl, hj, hW⟩ := hrel
      by_cases hlt : j < N
      · have hw8 : IntKind.u8.wrap (j : Int) = (j : Int) := by rw [IntKind.wrap_u8]; omega
        go_wp2_with (fail)
        refine (st_send_fr (hW.out.1.quiet ((Mod.refl _ wr).alloc _)) 1 2 _ [UInt8.ofNat j] (rd_new wr j (by omega)) (by simp) (by decide) (by decide) (by decide) (by decide)).mono ?_
        rintro e w3 ⟨rfl, s3, f3⟩
        rw [sent_range j (by omega)] at s3
        have ho3 := own_fr (own_mod hW.out.2 ((Mod.refl (fun _ => False) wr).alloc (.cells #[.int .u8 (j : Int)] 5)) (fun _ _ h => h)) f3 (by decide) (by decide)
        have ho4 := own_mod ho3 ((Mod.refl (fun _ => False) w3).alloc (.cells #[.int .i64 (j : Int)] 3)) (fun _ _ h => h)
        have s4 := s3.quiet ((Mod.refl (fun _ => False) w3).alloc (.cells #[.int .i64 (j : Int)] 3))
        have hjb : j < 60 := by omega
        clear hw8
        obtain ⟨A9, k9, w9, hr9, ho9, hm9, _⟩ := app_int w.heap.size (List.range j).length u9 _ _ ho4 ⟨w3.heap.size, 0, none⟩ 1 1 [.int .i64 (j : Int)] (by rw [List.length_range]; omega) rfl (fun q u hq => by rw [Addr.add_lit, (Blk.new w3 _ 3).cell]; simpa using hq) (by intro u hu; simp at hu; subst hu; rfl) s4.2.1.size
        rw [List.length_range] at hr9 ho9
        have hnew : Wanted w B g (.slice A9 (j + 1) k9) (List.range (j + 1)) w9 := ⟨s4.ints ho4 hm9, by rw [ints_range_succ, List.length_range]; exact ho9⟩
        have Hnew := Lib.hid hnew
        clear hW s3 f3 ho3 ho4 s4 ho9 hm9 hnew
        go_wp2_with (at_builtin; refine wpList_append_run rfl _ _ 42 42 rfl _ _ rfl rfl hr9 ?_)
        go_roundw
        case rel => exact ⟨j + 1, by go_num, by omega, Hnew⟩
        case measure => simp [intOf]; omega
      · obtain rfl : N = j := by omega
        go_wp2_with (fail)
        refine (st_move_fr hW.out.1 i k).mono ?_
        rintro e w2 ⟨rfl, s2, f2⟩
        have ho2 := own_fr hW.out.2 f2 (by decide) (by decide)
        have hLl : (lets (List.range N)).length = N := by simp [lets]
        have hIl : (List.range N).length = N := List.length_range
        by_cases hok : moveOk (lets (List.range N)) i k = true
        · have hin : 0 ≤ i ∧ i < (N : Int) ∧ 0 ≤ k ∧ k < (N : Int) := by
            have := of_decide_eq_true hok
            rw [hLl] at this
            exact this
          obtain ⟨I, rfl⟩ := Int.eq_ofNat_of_zero_le hin.1
          obtain ⟨K, rfl⟩ := Int.eq_ofNat_of_zero_le hin.2.2.1
          have hI : I < N := by omega
          have hK : K < N := by omega
          have hmv : moved (lets (List.range N)) I K = lets (mv (List.range N) I K) := by
            unfold moved
            rw [if_pos hok]
            exact lets_moved N I K hI hK
          have hml := mv_len N I K hI
          have hlen : (((lets (mv (List.range N) I K)).length : Nat) : Int) = (N : Int) := by simp [lets, hml]
          rw [hmv] at s2
          rw [hok]
          rcases own_cases ho2 with ⟨_, h, _⟩ | ⟨r, c, cur, rfl, _⟩
          · omega
          rw [hIl] at ho2 ⊢
          have HL := Lib.hid hlen
          have HML := Lib.hid hml
          have HI := Lib.hid hI
          have S2 := Lib.hid s2
          have HO2 := Lib.hid ho2
          clear hok hmv hW ho2 f2 s2 hlen hml hLl hIl hin
          go_wp2_with (fail)
          refine (st_len S2.out).mono ?_
          rintro e _ ⟨rfl, rfl⟩
          rw [HL.out]
          have hrow := ints_row HO2.out
          obtain ⟨_, hnc, hcm, hrow⟩ := hrow
          have a34 := i34 (c5 := c) (j := I) hrow List.length_range (by omega) (by omega)
          obtain ⟨A1, k1, u1, hr1, ho1, _, hM1, hs1⟩ := a34 _ _ ((Mod.refl _ w2).alloc (.cells #[] 3)).drew (Blk.new _ _ _).drew (Nat.le_refl _)
          have a41 := i41 (c5 := c) (d := I + 1) (n := I) (Z := (List.range N).take I) hrow List.length_range (by omega) (by omega) (by omega) hnc
          obtain ⟨A2, k2, u2, hr2, hM2, ho4, hs2⟩ := a41 _ _ _ hM1 ho1
          obtain ⟨M, hM⟩ : ∃ M, I + (N - (I + 1)) = M := ⟨_, rfl⟩
          rw [hM] at hr2 ho4
          have hMN : N = M + 1 := by omega
          obtain ⟨r2, rfl⟩ := hs2 hs1
          unfold maxLen at hcm
          have hq1 : (I : Int) ≤ (c : Int) := by omega
          have hq2 : (I : Int) + 1 ≤ (N : Int) := by omega
          have hq3 : (0 : Int) ≤ (I : Int) + 1 := by omega
          have hq4 : ((I : Int) + 1).toNat = I + 1 := by omega
          have hq5 : (N : Int) ≤ (c : Int) := by omega
          have hw1 : IntKind.i64.wrap ((I : Int) + 1) = (I : Int) + 1 := by rw [IntKind.wrap_i64]; omega
          obtain ⟨Ad, hAd⟩ : ∃ Ad : Option Addr, (if c = I + 1 then (some ⟨r, 0, none⟩ : Option Addr) else some ⟨r, I + 1, none⟩) = Ad := ⟨_, rfl⟩
          rw [hAd] at hr2
          have Hr1 := Lib.hid hr1
          have Hr2 := Lib.hid hr2
          have HMN := Lib.hid hMN
          have HM2 := Lib.hid hM2
          clear hr1 hr2 a34 a41 hrow hMN hM hM2 hM1
          go_wp2
          go_region_law (first | (refine step_append_run rfl _ _ 42 42 rfl _ _ (by simp [Act.eval]) (by simp [Act.eval]) Hr1.out ?_) | (refine step_append_run rfl _ _ 42 42 rfl _ _ (by simp [Act.eval]) (by simp [Act.eval]) Hr2.out ?_))
          obtain ⟨_, hnc2, hcm2, hrow2⟩ := ints_row ho4
          have hRl : ((List.range N).take I ++ (List.range N).drop (I + 1)).length = M := by have := HMN.out; simp; omega
          have hKM : K ≤ M := by have := HMN.out; omega
          have b34 := i34 (c5 := k2) (j := K) hrow2 hRl (by have := HMN.out; omega) hKM
          have b37 := i37 (W := u2) (R := (List.range N).take I ++ (List.range N).drop (I + 1)) (l := I) (show M < 200 by have := HMN.out; omega) hKM
          have b41 := i41 (c5 := k2) (d := K) (n := K + 1) (Z := ((List.range N).take I ++ (List.range N).drop (I + 1)).take K ++ [I]) hrow2 hRl (by have := HMN.out; omega) (by omega) hKM hnc2
          have HKN : Hid (K + 1 + (M - K) = N) := Lib.hid (by have := HMN.out; omega)
          have B34 := Lib.hid b34
          have B37 := Lib.hid b37
          have B41 := Lib.hid b41
          unfold maxLen at hcm2
          have hq6 : (K : Int) ≤ (k2 : Int) := by omega
          have hq7 : (K : Int) ≤ (M : Int) := by omega
          have hq8 : (M : Int) ≤ (k2 : Int) := by omega
          clear b34 b37 b41 hrow2 hRl ho4
          obtain ⟨Ad2, hAd2⟩ : ∃ Ad2 : Option Addr, (if k2 = K then (some ⟨r2, 0, none⟩ : Option Addr) else some ⟨r2, K, none⟩) = Ad2 := ⟨_, rfl⟩
          have hT2 : True := trivial
          go_wp2
          go_region_held3 (fun _ => True) (trivial) (first
            | (obtain ⟨A8, k8, w8, hr8, ho8, hx8, hM8, hs8⟩ := B34.out _ _ ((Mod.refl _ u2).alloc (.cells #[] 3)).drew (Blk.new _ _ _).drew (Nat.le_refl _); refine step_append_run rfl _ _ 42 42 rfl _ _ (by simp [Act.eval]) (by simp [Act.eval]) hr8 ?_)
            | (obtain ⟨A8, k8, w8, hr8, ho8, hx8, hM8, hs8⟩ := B34.out _ _ (((Mod.refl _ u2).alloc (.cells #[] 3)).alloc (.cells #[.int .i64 (I : Int)] 3)).drew ((Blk.new _ _ _).alloc _).drew (Nat.le_refl _); have hV := int_after1 hx8; refine step_append_run rfl _ _ 42 42 rfl _ _ (by simp [Act.eval]) (by simp [Act.eval]) hr8 ?_)
            | (obtain ⟨A8, k8, w8, hr8, ho8, hx8, hM8, hs8⟩ := B34.out _ _ (((Mod.refl _ u2).alloc (.cells #[.int .i64 (I : Int)] 3)).alloc (.cells #[] 3)).drew (Blk.new _ _ _).drew (alloc_le _ _); have hV := int_after2 hx8; refine step_append_run rfl _ _ 42 42 rfl _ _ (by simp [Act.eval]) (by simp [Act.eval]) hr8 ?_)
            | (obtain ⟨A9, k9, w9, hr9, ho9, hM9⟩ := B37.out _ _ _ hM8 ho8 _ _ (Mod.refl _ w8) hV; refine step_append_run rfl _ _ 42 42 rfl _ _ (by simp [Act.eval]) (by simp [Act.eval]) hr9 ?_)
            | (obtain ⟨A9, k9, w9, hr9, ho9, hM9⟩ := B37.out _ _ _ hM8 ho8 _ _ ((Mod.refl _ w8).alloc (.cells #[.int .i64 (I : Int)] 3)) (Blk.new _ _ _); refine step_append_run rfl _ _ 42 42 rfl _ _ (by simp [Act.eval]) (by simp [Act.eval]) hr9 ?_)
            | (obtain ⟨A3, k3, w10, hr10, hM10, ho10, _⟩ := B41.out _ _ _ hM9 ho9; rw [HKN.out] at hr10 ho10; rw [hAd2] at hr10; refine step_append_run rfl _ _ 42 42 rfl _ _ (by simp [Act.eval]) (by simp [Act.eval]) hr10 ?_))
          all_goals
            have HW2 : Hid (Wanted w B g (.slice A3 N k3) (mv (List.range N) I K) w10) := Lib.hid ⟨(S2.out.quiet HM2.out).quiet hM10, by
              rw [HML.out]
              exact own_base ho10 (Nat.le_trans S2.out.2.1.size HM2.out.size)⟩
            clear hM10 ho10 hM9 ho9 hM8 ho8
            go_wp2
            have hform := wanted_form HW2.out HML.out
            have HF := Lib.hid hform
            have HZb : Hid (∀ z ∈ mv (List.range N) I K, z < 60) := Lib.hid (fun z hz => mv_lt hNb HI.out z hz)
            clear hform
            go_loopw [14] (fun v wr => ∃ j : Nat, v = .int .i64 j ∧ j ≤ N ∧ Hid (Wanted w B g (.slice A3 N k3) (mv (List.range N) I K) wr)) (fun v _ => N - (intOf v).toNat)
            case atStart => exact ⟨0, rfl, by omega, HW2⟩
            case round =>
              obtain ⟨j, rfl, hj, hW⟩ := hrel
              by_cases hlt : j < N
              · rcases HF.out with h | ⟨r, c, hv⟩
                · omega
                injection hv with e1 _ e3
                subst e1
                subst e3
                go_wp2_with (fail)
                refine (st_look hW.out.1 (fun l hl => (lets_good _ l hl).1) j).mono ?_
                rintro e w3 ⟨s3, hm3, v3, rfl, hby⟩
                obtain ⟨hok, hnc, hcm, g3, k3, z, hz, rfl, hk3, cz, cw⟩ := wanted_at hW.out HML.out HZb.out hlt hm3 hby
                have Hnew : Hid (Wanted w B g (.slice (some ⟨r, 0, none⟩) N _) (mv (List.range N) I K) w3) := Lib.hid ⟨s3, own_mod hW.out.2 hm3 (fun _ _ h => h)⟩
                rw [hok]
                clear hok hby s3 hm3 hW
                unfold maxLen at hcm
                go_wp2
                go_quiet (fail)
                go_wp2
                go_roundw
                case rel => exact ⟨j + 1, by go_num, by omega, Lib.hid ⟨Hnew.out.1.quiet (Mod.drewN (Mod.refl _ _) _), own_mod Hnew.out.2 (Mod.drewN (Mod.refl (fun _ => False) _) _) (fun _ _ h => h)⟩⟩
                case measure => simp [intOf]; omega
              · obtain rfl : N = j := by omega
                go_wp2
                go_ret
                exact ⟨rfl, ends_of2 hW.out.1⟩
        · have hok' : moveOk (lets (List.range N)) i k = false := by simpa using hok
          have hmv : moved (lets (List.range N)) i k = lets (List.range N) := by unfold moved; rw [hok']; rfl
          rw [hmv] at s2
          have hx : i < 0 ∨ (0 ≤ i ∧ (N : Int) ≤ i) ∨ (0 ≤ i ∧ i < (N : Int) ∧ k < 0) ∨ (0 ≤ i ∧ i < (N : Int) ∧ 0 ≤ k ∧ (N : Int) ≤ k) := by
            have := of_decide_eq_false hok'
            rw [hLl] at this
            omega
          rw [hok']
          have HW2 : Hid (Wanted w B g u9 (List.range N) w2) := Lib.hid ⟨s2, ho2⟩
          clear hok hok' hmv hW ho2 f2 s2
          have hlen : (((lets (List.range N)).length : Nat) : Int) = (N : Int) := by rw [hLl]
          have HL := Lib.hid hlen
          clear hlen hLl hIl
          rcases hx with x1 | ⟨x1, x2⟩ | ⟨x1, x2, x3⟩ | ⟨x1, x2, x3, x4⟩
          all_goals
            go_wp2_with (fail)
            refine (st_len HW2.out.1).mono ?_
            rintro e _ ⟨rfl, rfl⟩
            rw [HL.out]
            go_wp2
            have hform := wanted_form HW2.out List.length_range
            have HF := Lib.hid hform
            have HZb : Hid (∀ z ∈ List.range N, z < 60) := Lib.hid (fun z hz => by have := List.mem_range.1 hz; omega)
            clear hform HL
            go_loopw [14] (fun v wr => ∃ j : Nat, v = .int .i64 j ∧ j ≤ N ∧ Hid (Wanted w B g u9 (List.range N) wr)) (fun v _ => N - (intOf v).toNat)
            case atStart => exact ⟨0, rfl, by omega, HW2⟩
            case round =>
              obtain ⟨j, rfl, hj, hW⟩ := hrel
              by_cases hlt : j < N
              · rcases HF.out with h | ⟨r, c, hv⟩
                · omega
                subst hv
                go_wp2_with (fail)
                refine (st_look hW.out.1 (fun l hl => (lets_good _ l hl).1) j).mono ?_
                rintro e w3 ⟨s3, hm3, v3, rfl, hby⟩
                obtain ⟨hok, hnc, hcm, g3, k3, z, hz, rfl, hk3, cz, cw⟩ := wanted_at hW.out List.length_range HZb.out hlt hm3 hby
                have Hnew : Hid (Wanted w B g (.slice (some ⟨r, 0, none⟩) N c) (List.range N) w3) := Lib.hid ⟨s3, own_mod hW.out.2 hm3 (fun _ _ h => h)⟩
                rw [hok]
                clear hok hby s3 hm3 hW
                unfold maxLen at hcm
                go_wp2
                go_quiet (fail)
                go_wp2
                go_roundw
                case rel => exact ⟨j + 1, by go_num, by omega, Lib.hid ⟨Hnew.out.1.quiet (Mod.drewN (Mod.refl _ _) _), own_mod Hnew.out.2 (Mod.drewN (Mod.refl (fun _ => False) _) _) (fun _ _ h => h)⟩⟩
                case measure => simp [intOf]; omega
              · obtain rfl : N = j := by omega
                go_wp2
                go_ret
                exact ⟨rfl, ends_of2 hW.out.1⟩
end Go.Proofs.Ytjhlabpnjkepbaa
