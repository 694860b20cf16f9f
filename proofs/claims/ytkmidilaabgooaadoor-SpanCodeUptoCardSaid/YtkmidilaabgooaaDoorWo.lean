/-
  What SpanCode's walk shows.
-/
import Derived.Test.YtkmidilaabgooaaDoorWf
import Derived.Test.YtkmidilaabgooaaDoorWd
namespace Go.Proofs.YtkmidilaabgooaaDoor
open Go.RowKit Mem
set_option linter.unusedVariables false
set_option linter.unusedSimpArgs false

theorem code_two {K : Nat} {c : Bs} (hK : 0 < K) (h96 : 96 ∉ c) (hne : c ≠ []) : codeV (List.replicate K 96 ++ c ++ List.replicate K 96) = .tuple #[.string (sv (strip c)), .int .i64 ((c.length : Int) + 2 * (K : Int))] := by
  have h := code_plain K hK (b := []) (c := c) (by simp) h96 hne
  rw [List.append_nil] at h
  unfold codeV
  rw [h]
  dsimp only
  have : (List.replicate K (96 : UInt8) ++ c ++ List.replicate K 96).length - ([] : Bs).length = c.length + 2 * K := by simp; omega
  rw [this]
  congr 2
theorem Grow.nil (w w' : World) (h : Mod (fun _ => False) w w') : Grow w w' (.slice none 0 0) [] := ⟨Byt.nil _ _, h⟩
/-- No grave accent, no line feed. -/
def Cln (acc : Bs) : Prop := ∀ b ∈ acc, b ≠ 96 ∧ b ≠ 10
theorem Cln.push {acc : Bs} (h : Cln acc) {b : UInt8} (h1 : b ≠ 96) (h2 : b ≠ 10) : Cln (acc ++ [b]) := by
  intro c hc
  rcases List.mem_append.1 hc with hc | hc
  · exact h c hc
  · have : c = b := by simpa using hc
    rw [this]; exact ⟨h1, h2⟩
theorem Cln.two {acc : Bs} (h : Cln acc) : 96 ∉ acc ∧ 10 ∉ acc := ⟨fun h2 => (h 96 h2).1 rfl, fun h2 => (h 10 h2).2 rfl⟩
theorem pad_no {acc : Bs} (h : Cln acc) : 96 ∉ (32 :: acc ++ [32] : Bs) ∧ 10 ∉ (32 :: acc ++ [32] : Bs) := by
  have := h.two
  constructor
  · simp; exact this.1
  · simp; exact this.2
theorem strip_pad_blank {acc : Bs} (h : Cln acc) (hb : acc.all (· == 32) = true) : strip (32 :: acc ++ [32]) = 32 :: acc ++ [32] := by
  rw [strip_plain (pad_no h).2]
  have : (32 :: acc ++ [32] : Bs).any (· != 32) = false := by
    rw [List.any_eq_false]
    intro x hx
    simp at hx
    have hx' : x = 32 := by
      rcases hx with hx | hx | hx
      · exact hx
      · exact beq_iff_eq.1 (List.all_eq_true.1 hb x hx)
      · exact hx
    rw [hx']; decide
  rw [this]; rfl
theorem strip_pad {acc : Bs} (h : Cln acc) (hb : acc.all (· == 32) = false) : strip (32 :: acc ++ [32]) = acc := by
  rw [strip_plain (pad_no h).2]
  obtain ⟨x, hx, hx2⟩ := List.all_eq_false.1 hb
  have h1 : (32 :: acc ++ [32] : Bs).any (· != 32) = true := by
    rw [List.any_eq_true]
    exact ⟨x, by simp [hx], by simpa using hx2⟩
  have h2 : (32 :: acc ++ [32] : Bs).getLast? = some 32 := List.getLast?_concat (l := 32 :: acc)
  rw [h1, h2]
  show (if (true && (some (32 : UInt8) == some 32) && (some (32 : UInt8) == some 32)) = true then (acc ++ [32]).dropLast else _) = acc
  rw [if_pos (by decide), List.dropLast_concat]
theorem strip_self {c z : UInt8} {q : Bs} (h : Cln (c :: q)) (hb : (c :: q).all (· == 32) = false) (hz : (c :: q)[q.length]? = some z) : strip (c :: q) = if c = 32 ∧ z = 32 then q.dropLast else c :: q := by
  have h1 : (c :: q).any (· != 32) = true := by
    obtain ⟨x, hx, hx2⟩ := List.all_eq_false.1 hb
    rw [List.any_eq_true]
    exact ⟨x, hx, by simpa using hx2⟩
  exact strip_cons (map_lf h.two.2) h1 hz
theorem rep_add (j : Nat) : sv (List.replicate j 96) ++ (⟨#[96]⟩ : ByteArray) = sv (List.replicate (j + 1) 96) := by
  have := sv_add (List.replicate j 96) [96]
  rw [List.replicate_succ']
  exact this

set_option maxRecDepth 100000 in
set_option maxHeartbeats 2000000 in
theorem spanCode_walk (r : Bs) (n : Int) (m : Int) (w : World) (hn : (Lit.int .i64 n).wf = true) (hb : r.length ≤ 1048576) (hm : w.cell? ⟨0, 0, none⟩ = some (.int .i64 m)) :
    Calls Tryd.prog 5 #[.string (sv r), .int .i64 n] w fun e w' => e = .returned (.bool true) ∧ Mod (fun _ => False) w w' := by
  have HM := Lib.hid hm
  clear hm
  have hn' : -9223372036854775808 ≤ n ∧ n ≤ 9223372036854775807 := by simpa [Lit.wf, IntKind.min, IntKind.max, IntKind.signed, IntKind.bits] using hn
  have hrz := sv_size r
  obtain ⟨hn1, hn2⟩ := hn'
  clear hn
  go_enter Tryd.func5, Tryd.ntmps5
  go_wp2_with (fail)
  refine (shown_any m _ HM.out).mono ?_
  rintro e w1 ⟨rfl, h1⟩
  have H1 := Lib.hid h1
  clear h1
  go_upto_block 0 with (fail)
  go_cut [6] (fun v wx => ∃ (acc : Bs) (A : Option Addr) (c : Nat), v = .slice A acc.length c ∧ acc.length ≤ 2000 ∧ Hid (Grow w wx (.slice A acc.length c) acc ∧ Cln acc))
  case first =>
    have HG0 : Hid (Grow w w1 (.slice none 0 0) [] ∧ Cln []) := Lib.hid ⟨Grow.nil w w1 H1.out, fun b hb => by cases hb⟩
    go_wp2
    go_loopw [6, 7] (fun v i wr => ∃ (k : Nat) (acc : Bs) (A : Option Addr) (c : Nat), v = .slice A acc.length c ∧ i = .int .i64 k ∧ k ≤ r.length ∧ k ≤ 2000 ∧ acc.length ≤ k ∧ Hid (Grow w wr (.slice A acc.length c) acc ∧ Cln acc)) (fun _ i _ => r.length - (intOf i).toNat)
    case atStart => exact ⟨0, [], none, 0, rfl, rfl, by omega, by omega, by simp, HG0⟩
    case round =>
      obtain ⟨k, acc, A, c, rfl, rfl, hk, hk2, hak, hG⟩ := hrel
      by_cases hlt : k < r.length ∧ k < 2000
      · obtain ⟨h1, h2⟩ := hlt
        have q1 : (k : Int) < (r.length : Int) := by omega
        have q2 : (k : Int) < 2000 := by omega
        obtain ⟨b, hb'⟩ : ∃ b, r[k] = b := ⟨_, rfl⟩
        have hget : ∀ h, (sv r)[k]'h = b := fun _ => hb'
        clear hb'
        rcases c1 : ((b.toNat : Int) == 96) with _ | _
        · rcases c2 : ((b.toNat : Int) == 10) with _ | _
          · obtain ⟨A2, c2', w2, hr, hG2⟩ := hG.out.1.push b (by omega)
            have hb96 : b ≠ 96 := by rintro rfl; cases c1
            have hb10 : b ≠ 10 := by rintro rfl; cases c2
            have HG2 := Lib.hid (And.intro hG2 (hG.out.2.push hb96 hb10))
            have n1 : ((b.toNat : Int) != 96) = true := by rw [bne, c1]; rfl
            have n2 : ((b.toNat : Int) != 10) = true := by rw [bne, c2]; rfl
            clear hG2 c1 c2 hb96 hb10
            go_wp2_with (at_builtin; refine wpList_append_run rfl _ _ 30 30 rfl _ _ rfl rfl hr ?_)
            go_roundw
            case rel => exact ⟨k + 1, acc ++ [b], A2, c2', by rw [List.length_append]; rfl, by go_num, by omega, by omega, by rw [List.length_append]; simp; omega, by rw [List.length_append]; exact HG2⟩
            case measure => simp [intOf]; omega
          · have n1 : ((b.toNat : Int) != 96) = true := by rw [bne, c1]; rfl
            have n2 : ((b.toNat : Int) != 10) = false := by rw [bne, c2]; rfl
            clear c1 c2
            go_wp2
            go_roundw
            case rel => exact ⟨k + 1, acc, A, c, rfl, by go_num, by omega, by omega, by omega, hG⟩
            case measure => simp [intOf]; omega
        · have n1 : ((b.toNat : Int) != 96) = false := by rw [bne, c1]; rfl
          clear c1
          go_wp2
          go_roundw
          case rel => exact ⟨k + 1, acc, A, c, rfl, by go_num, by omega, by omega, by omega, hG⟩
          case measure => simp [intOf]; omega
      · have hx : k = r.length ∨ (k < r.length ∧ k = 2000) := by omega
        clear hlt
        rcases hx with hx | ⟨hx1, hx2⟩
        · have q1 : ¬ ((k : Int) < (r.length : Int)) := by omega
          go_wp2
          go_meet
          case rel => exact ⟨acc, A, c, rfl, by omega, hG⟩
        · have q1 : (k : Int) < (r.length : Int) := by omega
          have q2 : ¬ ((k : Int) < 2000) := by omega
          go_wp2
          go_meet
          case rel => exact ⟨acc, A, c, rfl, by omega, hG⟩
  case rest =>
    obtain ⟨acc, A, c, rfl, hal, hG⟩ := hcut
    have hct := hG.out.1.b.text (P := Tryd.prog) (T := 30) (S := 9) Tryd.underlying30 Tryd.underlying5 Tryd.underlying9
    have HM2 := Lib.hid hG.out.1.m
    have HC := Lib.hid hG.out.2
    clear hG H1
    go_upto_if 47 with (fail)
    go_cut [1] (fun v wy => ∃ z : Int, v = .int .i64 z ∧ 0 ≤ z ∧ z ≤ 9223372036854775807 ∧ wy = wc)
    case first =>
      by_cases hneg : n < 0
      · have e1 : IntKind.i64.wrap (n + 1) = n + 1 := by rw [IntKind.wrap_i64]; omega
        have e2 : IntKind.i64.wrap (-(n + 1)) = -(n + 1) := by rw [IntKind.wrap_i64]; omega
        go_wp2
        go_meet
        case rel => exact ⟨_, rfl, by omega, by omega, rfl⟩
      · go_wp2
        go_meet
        case rel => exact ⟨_, rfl, by omega, by omega, rfl⟩
    case rest =>
      obtain ⟨z, rfl, hz0, hz1, rfl⟩ := hcut
      obtain ⟨K, hK⟩ : ∃ K : Nat, z % 9 + 1 = (K : Int) := ⟨(z % 9 + 1).toNat, by omega⟩
      have hK1 : 1 ≤ K := by omega
      have hK9 : K ≤ 9 := by omega
      have hrem : z.tmod 9 = (K : Int) - 1 := by rw [Int.tmod_eq_emod_of_nonneg hz0]; omega
      clear hK hct
      go_wp2
      go_loop [9, 10] (fun v i => ∃ j : Nat, v = .string (sv (List.replicate j 96)) ∧ i = .int .i64 j ∧ j ≤ K) (fun _ i => K - (intOf i).toNat)
      case atStart => exact ⟨0, rfl, rfl, by omega⟩
      case round =>
        obtain ⟨j, rfl, rfl, hj⟩ := hrel
        by_cases hjk : j < K
        · have q1 : (j : Int) ≤ (K : Int) - 1 := by omega
          have e1 := rep_add j
          have y1 : ((sv (List.replicate j 96)).size : Int) ≤ 8388608 := by rw [sv_size]; simp; omega
          have y2 : (((⟨#[96]⟩ : ByteArray).size : Nat) : Int) ≤ 8388608 := by show ((1 : Nat) : Int) ≤ 8388608; omega
          go_wp2
          go_round
          case rel => exact ⟨j + 1, rfl, by go_num, by omega⟩
          case measure => simp [intOf]; omega
        · obtain rfl : j = K := by omega
          have q1 : ¬ ((j : Int) ≤ (j : Int) - 1) := by omega
          have hcz := sv_size acc
          go_wp2
          go_loop [11, 12] (fun v i => ∃ (t : Bool) (k : Nat), v = .bool t ∧ i = .int .i64 k ∧ k ≤ acc.length ∧ Hid (t = (acc.take k).all (· == 32))) (fun _ i => acc.length - (intOf i).toNat)
          case atStart => exact ⟨true, 0, rfl, rfl, by omega, Lib.hid (by simp)⟩
          case round =>
            obtain ⟨t, k, rfl, rfl, hk, ht⟩ := hrel
            by_cases hlt : k < acc.length
            · have q2 : (k : Int) < (acc.length : Int) := by omega
              obtain ⟨b, hb'⟩ : ∃ b, acc[k] = b := ⟨_, rfl⟩
              have hget : ∀ h, (sv acc)[k]'h = b := fun _ => hb'
              have HT : Hid ((acc.take (k + 1)).all (· == 32) = (t && b == 32)) := Lib.hid (by
                rw [List.take_add_one, List.getElem?_eq_getElem hlt, Option.toList_some, List.all_append, ht.out, hb']
                simp)
              have hbe : ((b.toNat : Int) == 32) = (b == 32) := by
                rw [Bool.eq_iff_iff, beq_iff_eq, beq_iff_eq]
                exact ⟨fun h => UInt8.toNat_inj.1 (by show b.toNat = 32; omega), fun h => by rw [h]; rfl⟩
              clear hb' ht
              cases t with
              | false =>
                have HT2 : Hid (false = (acc.take (k + 1)).all (· == 32)) := Lib.hid (by rw [HT.out]; rfl)
                clear HT hbe
                go_wp2
                go_round
                case rel => exact ⟨false, k + 1, rfl, by go_num, by omega, HT2⟩
                case measure => simp [intOf]; omega
              | true =>
                cases hb2 : b == 32 with
                | false =>
                  have HT2 : Hid (false = (acc.take (k + 1)).all (· == 32)) := Lib.hid (by rw [HT.out, hb2]; rfl)
                  rw [hb2] at hbe
                  clear HT hb2
                  go_wp2
                  go_round
                  case rel => exact ⟨false, k + 1, rfl, by go_num, by omega, HT2⟩
                  case measure => simp [intOf]; omega
                | true =>
                  have HT2 : Hid (true = (acc.take (k + 1)).all (· == 32)) := Lib.hid (by rw [HT.out, hb2]; rfl)
                  rw [hb2] at hbe
                  clear HT hb2
                  go_wp2
                  go_round
                  case rel => exact ⟨true, k + 1, rfl, by go_num, by omega, HT2⟩
                  case measure => simp [intOf]; omega
            · have hke : k = acc.length := by omega
              have hta : t = acc.all (· == 32) := by have := ht.out; rw [hke, List.take_length] at this; exact this
              obtain ⟨R, hR⟩ : ∃ R, List.replicate j (96 : UInt8) = R := ⟨_, rfl⟩
              have hRl : R.length = j := by rw [← hR]; simp
              have V1 : Hid (codeV (R ++ (32 :: acc ++ [32]) ++ R) = .tuple #[.string (sv (strip (32 :: acc ++ [32]))), .int .i64 (((32 :: acc ++ [32] : Bs).length : Int) + 2 * (j : Int))]) := Lib.hid (by rw [← hR]; exact code_two (by omega) (pad_no HC.out).1 (by simp))
              have V2 : Hid (acc ≠ [] → codeV (R ++ acc ++ R) = .tuple #[.string (sv (strip acc)), .int .i64 ((acc.length : Int) + 2 * (j : Int))]) := Lib.hid (fun h => by rw [← hR]; exact code_two (by omega) HC.out.two.1 h)
              rw [hR]
              have hRz : (sv R).size = j := by rw [sv_size, hRl]
              have yR : (j : Int) ≤ 8388608 := by omega
              have ya : (acc.length : Int) ≤ 8388608 := by omega
              have a1 : sv R ++ (⟨#[32]⟩ : ByteArray) = sv (R ++ [32]) := sv_add _ [32]
              have a2 : sv (R ++ [32]) ++ sv acc = sv (R ++ [32] ++ acc) := sv_add _ _
              have a3 : sv (R ++ [32] ++ acc) ++ (⟨#[32]⟩ : ByteArray) = sv (R ++ [32] ++ acc ++ [32]) := sv_add _ [32]
              have a4 : sv (R ++ [32] ++ acc ++ [32]) ++ sv R = sv (R ++ (32 :: acc ++ [32]) ++ R) := by rw [sv_add]; simp
              have y1 : ((sv (R ++ [32])).size : Int) ≤ 8388608 := by rw [sv_size]; simp; omega
              have y2 : ((sv (R ++ [32] ++ acc)).size : Int) ≤ 8388608 := by rw [sv_size]; simp; omega
              have y3 : ((sv (R ++ [32] ++ acc ++ [32])).size : Int) ≤ 8388608 := by rw [sv_size]; simp; omega
              have LP : Hid ((R ++ (32 :: acc ++ [32]) ++ R).length ≤ 4294967280 ∧ (R ++ acc ++ R).length ≤ 4294967280) := Lib.hid (by simp; omega)
              obtain ⟨R3, hR3⟩ : ∃ P, (R ++ [32] ++ acc ++ [32] : Bs) = P := ⟨_, rfl⟩
              rw [hR3] at a3 a4 y3
              obtain ⟨R2, hR2⟩ : ∃ P, (R ++ [32] ++ acc : Bs) = P := ⟨_, rfl⟩
              rw [hR2] at a2 a3 y2
              obtain ⟨R1, hR1⟩ : ∃ P, (R ++ [32] : Bs) = P := ⟨_, rfl⟩
              rw [hR1] at a1 a2 y1
              clear hR3 hR2 hR1
              obtain ⟨P, hP⟩ : ∃ P, (32 :: acc ++ [32] : Bs) = P := ⟨_, rfl⟩
              have hPl : P.length = acc.length + 2 := by rw [← hP]; simp
              cases t with
              | true =>
                have hsP : strip P = P := by rw [← hP]; exact strip_pad_blank HC.out hta.symm
                have b1 : (⟨#[32]⟩ : ByteArray) ++ sv acc = sv (32 :: acc) := sv_add [32] acc
                have b2 : sv (32 :: acc) ++ (⟨#[32]⟩ : ByteArray) = sv P := by rw [← hP]; exact sv_add _ [32]
                have y4 : ((sv (32 :: acc)).size : Int) ≤ 8388608 := by rw [sv_size]; simp; omega
                rw [hP] at V1 a4 LP
                rw [hsP, hPl] at V1
                have hPz : (sv P).size = acc.length + 2 := by rw [sv_size, hPl]
                have hPt := sv_toList P
                obtain ⟨Q, hQ⟩ : ∃ Q, R ++ P ++ R = Q := ⟨_, rfl⟩
                rw [hQ] at V1 a4 LP
                clear hP hQ V2 hta hke ht hsP
                go_wp2_with (fail)
                refine (code_v V1.out m LP.out.1 _ (mod_cell HM2.out HM.out)).mono ?_
                rintro e w5 ⟨rfl, h5⟩
                have H5 := Lib.hid (HM2.out.trans h5 (fun _ h => h.elim))
                clear h5
                go_wp2
                go_ret
                exact ⟨rfl, H5.out⟩
              | false =>
                have hsP : strip P = acc := by rw [← hP]; exact strip_pad HC.out hta.symm
                rw [hP] at V1 a4 LP
                rw [hsP, hPl] at V1
                obtain ⟨Q, hQ⟩ : ∃ Q, R ++ P ++ R = Q := ⟨_, rfl⟩
                rw [hQ] at V1 a4 LP
                have e1 : sv R ++ sv acc = sv (R ++ acc) := sv_add _ _
                have e2 : sv (R ++ acc) ++ sv R = sv (R ++ acc ++ R) := sv_add _ _
                have y5 : ((sv (R ++ acc)).size : Int) ≤ 8388608 := by rw [sv_size]; simp; omega
                have hne : acc ≠ [] := by rintro rfl; cases hta
                have V2' := V2.out hne
                obtain ⟨Q2, hQ2⟩ : ∃ Q, R ++ acc ++ R = Q := ⟨_, rfl⟩
                rw [hQ2] at e2 V2' LP
                obtain ⟨R4, hR4⟩ : ∃ Q, R ++ acc = Q := ⟨_, rfl⟩
                rw [hR4] at e1 e2 y5
                have hat := sv_toList acc
                have hV1 : Hid (codeV Q = .tuple #[.string (sv acc), .int .i64 ((acc.length : Int) + 2 + 2 * (j : Int))]) := Lib.hid (by rw [V1.out]; congr 3)
                clear V1 hR4 hQ2 hQ
                have V1 := hV1
                clear hV1
                obtain ⟨c0, q, z0, ql, hst, hb0, hbz, hlq, hx1, t3⟩ : ∃ (c0 : UInt8) (q : Bs) (z0 : UInt8) (ql : Nat), strip acc = (if c0 = 32 ∧ z0 = 32 then q.dropLast else acc) ∧ (∀ h, (sv acc)[0]'h = c0) ∧ (∀ h, (sv acc)[ql]'h = z0) ∧ acc.length = ql + 1 ∧ (c0 = 32 → 1 ≤ ql) ∧ (1 ≤ ql → (sv acc).extract 1 ql = sv q.dropLast) := by
                  cases acc with
                  | nil => exact absurd rfl hne
                  | cons c0 q =>
                    obtain ⟨z0, hz0'⟩ : ∃ z, (c0 :: q)[q.length]? = some z := ⟨(c0 :: q)[q.length]'(Nat.lt_succ_self _), List.getElem?_eq_getElem _⟩
                    refine ⟨c0, q, z0, q.length, strip_self HC.out hta.symm hz0', fun _ => rfl, fun h => ?_, rfl, fun hc => ?_, fun h1 => ?_⟩
                    · have e := List.getElem?_eq_getElem (l := c0 :: q) h
                      rw [hz0'] at e
                      injection e with e
                      exact e.symm
                    · cases q with
                      | cons _ _ => simp only [List.length_cons]; omega
                      | nil => rw [hc] at hta; cases hta
                    · rw [sv_ext, List.dropLast_eq_take]
                      congr 1
                      cases hl : q.length with
                      | zero => omega
                      | succ j => simp
                obtain ⟨N, hN⟩ : ∃ N, acc.length = N := ⟨_, rfl⟩
                obtain rfl : ql = N - 1 := by omega
                have hq2 : N ≤ 2000 := by omega
                have hq4 : (1 : Int) ≤ (N : Int) := by omega
                have hq5 : ((N : Int) - 1).toNat = N - 1 := by omega
                rw [hN] at hcz V1 V2' ya hlq hk hlt
                · skip
                  by_cases hc : c0 = 32
                  · by_cases hz : z0 = 32
                    · rw [if_pos ⟨hc, hz⟩] at hst
                      rw [hst] at V2'
                      have hq1' : (1 : Int) ≤ (N : Int) - 1 := by have := hx1 hc; omega
                      have t3' := t3 (hx1 hc)
                      have f1 : ((c0.toNat : Int) == 32) = true := by rw [hc]; rfl
                      have f2 : ((z0.toNat : Int) == 32) = true := by rw [hz]; rfl
                      have hdt := sv_toList q.dropLast
                      have V2 : Hid _ := Lib.hid V2'
                      clear V2' hst hta hne hc hz hlq hN hx1 t3 hal hke ht hP hPl hsP
                      go_wp2_with (fail)
                      refine (code_v V1.out m LP.out.1 _ (mod_cell HM2.out HM.out)).mono ?_
                      rintro e w5 ⟨rfl, h5⟩
                      have H5 := Lib.hid (HM2.out.trans h5 (fun _ h => h.elim))
                      clear h5
                      go_wp2_with (fail)
                      refine (code_v V2.out m LP.out.2 _ (mod_cell H5.out HM.out)).mono ?_
                      rintro e w6 ⟨rfl, h6⟩
                      have H6 := Lib.hid (H5.out.trans h6 (fun _ h => h.elim))
                      clear h6
                      go_wp2
                      go_ret
                      exact ⟨rfl, H6.out⟩
                    · rw [if_neg (show ¬ (c0 = 32 ∧ z0 = 32) from fun h => hz h.2)] at hst
                      rw [hst] at V2'
                      have f1 : ((c0.toNat : Int) == 32) = true := by rw [hc]; rfl
                      have f2 : ((z0.toNat : Int) == 32) = false := beq_eq_false_iff_ne.2 (fun e => hz (UInt8.toNat_inj.1 (by show z0.toNat = 32; omega)))
                      have V2 : Hid _ := Lib.hid V2'
                      clear V2' hst hta hne hc hz hlq hN hx1 t3 hal hke ht hP hPl hsP
                      go_wp2_with (fail)
                      refine (code_v V1.out m LP.out.1 _ (mod_cell HM2.out HM.out)).mono ?_
                      rintro e w5 ⟨rfl, h5⟩
                      have H5 := Lib.hid (HM2.out.trans h5 (fun _ h => h.elim))
                      clear h5
                      go_wp2_with (fail)
                      refine (code_v V2.out m LP.out.2 _ (mod_cell H5.out HM.out)).mono ?_
                      rintro e w6 ⟨rfl, h6⟩
                      have H6 := Lib.hid (H5.out.trans h6 (fun _ h => h.elim))
                      clear h6
                      go_wp2
                      go_ret
                      exact ⟨rfl, H6.out⟩
                  · rw [if_neg (show ¬ (c0 = 32 ∧ z0 = 32) from fun h => hc h.1)] at hst
                    rw [hst] at V2'
                    have f1 : ((c0.toNat : Int) == 32) = false := beq_eq_false_iff_ne.2 (fun e => hc (UInt8.toNat_inj.1 (by show c0.toNat = 32; omega)))
                    have V2 : Hid _ := Lib.hid V2'
                    clear V2' hst hta hne hc hlq hN hx1 t3 hal hke ht hP hPl hsP
                    go_wp2_with (fail)
                    refine (code_v V1.out m LP.out.1 _ (mod_cell HM2.out HM.out)).mono ?_
                    rintro e w5 ⟨rfl, h5⟩
                    have H5 := Lib.hid (HM2.out.trans h5 (fun _ h => h.elim))
                    clear h5
                    go_wp2_with (fail)
                    refine (code_v V2.out m LP.out.2 _ (mod_cell H5.out HM.out)).mono ?_
                    rintro e w6 ⟨rfl, h6⟩
                    have H6 := Lib.hid (H5.out.trans h6 (fun _ h => h.elim))
                    clear h6
                    go_wp2
                    go_ret
                    exact ⟨rfl, H6.out⟩
end Go.Proofs.YtkmidilaabgooaaDoor
