/-
  Mark, Punct.
-/
import Derived.Test.YtokojeiiobhciaaDoorIa
namespace Go.Proofs.YtokojeiiobhciaaDoor
open Go.RowKit Mem
set_option linter.unusedVariables false
set_option linter.unusedSimpArgs false

/-- The marks. -/
def marks : Bs := [33, 34, 35, 36, 37, 38, 39, 40, 41, 42, 43, 44, 45, 46, 47, 58, 59, 60, 61, 62, 63, 64, 91, 92, 93, 94, 95, 96, 123, 124, 125, 126]
def markV (c : Nat) : Bool := decide (33 ≤ c ∧ c ≤ 47) || decide (58 ≤ c ∧ c ≤ 64) || decide (91 ≤ c ∧ c ≤ 96) || decide (123 ≤ c ∧ c ≤ 126)
theorem marks_eq : ∀ c : Nat, c < 256 → marks.contains c.toUInt8 = markV c := by decide +kernel
theorem mark_any (c : Nat) (hc : c < 256) (w : World) : Calls Tryd.prog 13 #[.int .u8 (c : Int)] w fun e w' => e = .returned (.bool (markV c)) ∧ w' = w := by
  have h1 := idx_any marks c.toUInt8 w
  obtain ⟨h2, h3⟩ := has_idx c.toUInt8 marks
  rw [marks_eq c hc] at h3
  have hcc : ((c.toUInt8).toNat : Int) = (c : Int) := by simp; omega
  rw [hcc] at h1
  go_enter Tryd.func13, Tryd.ntmps13
  go_wp2_with (fail)
  refine h1.mono ?_
  rintro e w' ⟨rfl, rfl⟩
  go_wp2_with (fail)
  go_ret
  exact ⟨by rw [← h3]; rfl, rfl⟩
/-- The document's punctuation beyond the marks. -/
def punR : List (Int × Int) := [(161, 169), (171, 177), (180, 180), (182, 184), (187, 187), (191, 191), (215, 215), (247, 247), (8208, 8231), (8240, 8286), (8352, 8384), (8592, 8703), (12289, 12291), (12296, 12305)]
def punI (r : Int) : Bool := if r < 128 then decide (0 ≤ r) && markV r.toNat else punR.any fun p => decide (p.1 ≤ r) && decide (r ≤ p.2)
theorem pun_low (r : Int) (h : r < 128) (h0 : 0 ≤ r) : punI r = markV r.toNat := by
  unfold punI
  rw [if_pos h, decide_eq_true h0, Bool.true_and]
theorem pun_neg (r : Int) (h : r < 0) : punI r = false := by
  unfold punI
  rw [if_pos (by omega), decide_eq_false (by omega), Bool.false_and]
theorem pun_none (r : Int) (h : 128 ≤ r) (hno : ∀ p ∈ punR, ¬ (p.1 ≤ r ∧ r ≤ p.2)) : punI r = false := by
  unfold punI
  rw [if_neg (by omega), List.any_eq_false]
  intro p hp
  have := hno p hp
  simp only [Bool.and_eq_true, decide_eq_true_eq]
  exact this
theorem pun_some (r : Int) (h : 128 ≤ r) (p : Int × Int) (hp : p ∈ punR) (h1 : p.1 ≤ r) (h2 : r ≤ p.2) : punI r = true := by
  unfold punI
  rw [if_neg (by omega), List.any_eq_true]
  exact ⟨p, hp, by rw [decide_eq_true h1, decide_eq_true h2]; rfl⟩
theorem pun_small : ∀ p ∈ punR, -2147483648 ≤ p.1 ∧ p.1 ≤ 2147483647 ∧ -2147483648 ≤ p.2 ∧ p.2 ≤ 2147483647 := by decide
def punG (i : Nat) : Int × Int := (punR[i]?).getD (0, 0)
theorem idx_tab (i : Nat) (hi : i < 14) (w : World) : (Instr.index 47 (Value.agg #[.int .i32 161, .int .i32 169, .int .i32 171, .int .i32 177, .int .i32 180, .int .i32 180, .int .i32 182, .int .i32 184, .int .i32 187, .int .i32 187, .int .i32 191, .int .i32 191, .int .i32 215, .int .i32 215, .int .i32 247, .int .i32 247, .int .i32 8208, .int .i32 8231, .int .i32 8240, .int .i32 8286, .int .i32 8352, .int .i32 8384, .int .i32 8592, .int .i32 8703, .int .i32 12289, .int .i32 12291, .int .i32 12296, .int .i32 12305]) (.int .i64 (i : Int))).run Tryd.prog w = .ok (.agg #[.int .i32 (punG i).1, .int .i32 (punG i).2]) w := by
  rcases (show i = 0 ∨ i = 1 ∨ i = 2 ∨ i = 3 ∨ i = 4 ∨ i = 5 ∨ i = 6 ∨ i = 7 ∨ i = 8 ∨ i = 9 ∨ i = 10 ∨ i = 11 ∨ i = 12 ∨ i = 13 by omega) with rfl | rfl | rfl | rfl | rfl | rfl | rfl | rfl | rfl | rfl | rfl | rfl | rfl | rfl <;> kernel_rfl
set_option maxRecDepth 100000 in
set_option maxHeartbeats 1600000 in
theorem punct_any (r : Int) (hr : -2147483648 ≤ r ∧ r ≤ 2147483647) (w : World) :
    Calls Tryd.prog 14 #[.int .i32 r] w fun e w' => e = .returned (.bool (punI r)) ∧ Mod (fun _ => False) w w' := by
  go_enter Tryd.func14, Tryd.ntmps14
  by_cases h : r < 128
  · by_cases h0 : 0 ≤ r
    · have hmk := mark_any r.toNat (by omega) w
      have hrr : ((r.toNat : Nat) : Int) = r := by omega
      rw [hrr] at hmk
      go_wp2_with (fail)
      refine hmk.mono ?_
      rintro e w2 ⟨rfl, rfl⟩
      go_wp2_with (fail)
      go_ret
      exact ⟨by rw [pun_low r h h0]; rfl, Mod.refl _ _⟩
    · go_wp2_with (fail)
      go_ret
      exact ⟨by rw [pun_neg r (by omega)]; rfl, Mod.refl _ _⟩
  · go_wp2_with (fail)
    go_loopw [29] (fun v29 wr => ∃ i : Nat, v29 = .int .i64 (i : Int) ∧ i ≤ 14 ∧ Hid (∀ p ∈ punR.take i, ¬ (p.1 ≤ r ∧ r ≤ p.2)) ∧ Hid (Mod (fun _ => False) w wr)) (fun v _ => match v with | .int _ n => (14 - n).toNat | _ => 0)
    case atStart => exact ⟨0, rfl, by omega, Lib.hid (by simp), Lib.hid (Mod.refl _ _)⟩
    case round =>
      obtain ⟨i, rfl, hi, hno, hm⟩ := hrel
      by_cases h14 : i = 14
      · subst h14
        go_wp2_with (fail)
        go_ret
        exact ⟨by rw [pun_none r (by omega) hno.out]; rfl, hm.out⟩
      · have hix := fun w => idx_tab i (by omega) w
        obtain ⟨p, hp⟩ : ∃ p, punR[i]? = some p := ⟨_, List.getElem?_eq_getElem (show i < punR.length by show i < 14; omega)⟩
        rw [punG, hp] at hix
        simp only [Option.getD_some] at hix
        have hi1 : (i : Int) < 14 := by omega
        have hp2 := List.mem_of_getElem? hp
        have hlo : -2147483648 ≤ p.1 ∧ p.1 ≤ 2147483647 ∧ -2147483648 ≤ p.2 ∧ p.2 ≤ 2147483647 := pun_small p hp2
        have hM := Lib.hid (hm.out.alloc (Obj.cells #[Value.int .i32 p.1, Value.int .i32 p.2] 46))
        obtain ⟨lo, hlo1⟩ : ∃ lo, p.1 = lo := ⟨_, rfl⟩
        obtain ⟨up, hup1⟩ : ∃ up, p.2 = up := ⟨_, rfl⟩
        rw [hlo1, hup1] at hix hlo hM
        have htk : ∀ q ∈ punR.take (i + 1), ¬ (lo ≤ r ∧ r ≤ up) → ¬ (q.1 ≤ r ∧ r ≤ q.2) := by
          intro q hq hn
          rw [List.take_add_one, hp] at hq
          rcases List.mem_append.1 hq with hq | hq
          · exact hno.out q hq
          · have hq' : q = p := by simpa using hq
            rw [hq', hlo1, hup1]
            exact hn
        have hpu : lo ≤ r → r ≤ up → punI r = true := fun h1 h2 => pun_some r (by omega) p hp2 (by rw [hlo1]; exact h1) (by rw [hup1]; exact h2)
        have HT := Lib.hid (And.intro htk hpu)
        clear htk hpu hp2 hlo1 hup1 hp
        go_wp2_with (fail)
        · next h1 h2 =>
          go_ret
          exact ⟨by rw [HT.out.2 h1 h2]; rfl, hM.out⟩
        · next h1 h2 =>
          refine ⟨⟨i + 1, by simp, by omega, Lib.hid (fun q hq => HT.out.1 q hq (fun hn => by omega)), hM⟩, ?_⟩
          show (14 - ((i : Int) + 1)).toNat < (14 - (i : Int)).toNat
          omega
        · next h1 =>
          refine ⟨⟨i + 1, by simp, by omega, Lib.hid (fun q hq => HT.out.1 q hq (fun hn => by omega)), hM⟩, ?_⟩
          show (14 - ((i : Int) + 1)).toNat < (14 - (i : Int)).toNat
          omega
end Go.Proofs.YtokojeiiobhciaaDoor
