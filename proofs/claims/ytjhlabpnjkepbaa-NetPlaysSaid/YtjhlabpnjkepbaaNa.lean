/-
  net's small functions: slices.Clone at bytes, Reach, New, Len, Split.
-/
import Derived.Test.YtjhlabpnjkepbaaProg
import Derived.Test.YtjhlabpnjkepbaaRow
import Derived.WalkKit
import Derived.Tactics2
import Derived.Outline
import Derived.KernelRfl
import Derived.Deep.QuietTactic
import Derived.BigQuiet
import Derived.LoopTactic
import Derived.Deep.LoopGhost
import Derived.Deep.DeepCutAuto
import Derived.Deep.CutBlock
import Derived.Deep.RegionHeld3
import Derived.Deep.RegionWith
import Derived.StillTailTactics
import Derived.Laws.BitsLemmas
import Derived.WalkSpells
import Derived.Laws.BytesArg
import Derived.Laws.BitsAllLaws
namespace Go.Proofs.Ytjhlabpnjkepbaa
open Go.RowKit Mem
set_option linter.unusedVariables false

theorem ret_int {k : IntKind} {a b : Int} (h : a = b) : Ending.returned (.int k a) = .returned (.int k b) := by rw [h]
theorem ret_bool {a b : Bool} (h : a = b) : Ending.returned (.bool a) = .returned (.bool b) := by rw [h]
/-- Bytes as a row's cells. -/
def bts (l : List UInt8) : List Value := l.map fun b => .int .u8 (b.toNat : Int)
theorem bts_len (l : List UInt8) : (bts l).length = l.length := by simp [bts]
theorem bts_one (l : List UInt8) : ∀ v ∈ bts l, v.oneCell' = true := by
  intro v hv
  simp only [bts, List.mem_map] at hv
  obtain ⟨b, _, rfl⟩ := hv
  rfl
/-- A slice of bytes that reads as a list, in a block of its own kind. -/
def By (w : World) (base : Nat) (v : Value) (b : List UInt8) : Prop := w.ownsRow base 5 1 v b.length (bts b)
theorem info5 : (Try.prog.info? 5).map (fun i => (i.zero, i.size, i.bytes)) = some (some (.int .u8 0), 1, 1) := by kernel_rfl

/-- A slice of bytes that reads as a list, wherever it lies. -/
def Rd (w : World) (v : Value) (b : List UInt8) : Prop := (v = .slice none 0 0 ∧ b = []) ∨ ∃ ad c, v = .slice (some ad) b.length c ∧ ∀ j u, (bts b)[j]? = some u → w.cell? (ad.add j) = some u
theorem By.rd {w : World} {base : Nat} {v : Value} {b : List UInt8} (h : By w base v b) : Rd w v b := by
  rcases own_cases h with ⟨rfl, hn, hx⟩ | ⟨g, cap, cur, rfl, hg, hB, hn, hc, hs, hx⟩
  · exact .inl ⟨rfl, List.eq_nil_of_length_eq_zero hn⟩
  · refine .inr ⟨⟨g, 0, none⟩, cap, rfl, fun j u hu => ?_⟩
    have hj : j < b.length := by have := (List.getElem?_eq_some_iff.1 hu).1; rwa [bts_len] at this
    rw [Addr.add_lit, hB.cell, Nat.zero_add]
    rw [← hx, List.getElem?_take_of_lt (by omega)] at hu
    simpa using hu
theorem Rd.mod {S : Nat → Prop} {w w' : World} {v : Value} {b : List UInt8} (h : Rd w v b) (hm : Mod S w w') (hS : ∀ i, i < w.heap.size → ¬ S i) : Rd w' v b := by
  rcases h with h | ⟨ad, c, rfl, hc⟩
  · exact .inl h
  · refine .inr ⟨ad, c, rfl, fun j u hu => ?_⟩
    have h1 := hc j u hu
    have h2 := World.block_lt_of_cell? w _ h1
    exact (World.cell?_of_block (w := w) (hm.block _ h2 (hS _ h2))).trans h1

/-- A fresh copy. -/
def Cloned (w : World) (b : List UInt8) (e : Ending) (w' : World) : Prop := ∃ v, e = .returned v ∧ By w' w.heap.size v b ∧ Mod (fun _ => False) w w'

set_option maxHeartbeats 800000 in
theorem clone_rd (w : World) (v : Value) (b : List UInt8) (hv : Rd w v b) (hb : b.length ≤ 1000000) : Calls Try.prog 24 #[v] w (Cloned w b) := by
  obtain ⟨i5, hi5, hz0, hz1, hz2⟩ := info_parts info5
  rcases hv with ⟨rfl, hx⟩ | ⟨ad, cap, rfl, hcells⟩
  · subst hx
    have hnil := fun wx => Lib.run_eql_slice_nil (P := Try.prog) wx 32 5 none 0 0 0 0 Try.underlying32
    go_enter Try.func24, Try.ntmps24
    go_wp2
    go_ret
    exact ⟨_, rfl, World.ownsRow_nil _ _ _ _, Mod.refl _ _⟩
  · have Hc := Lib.hid hcells
    clear hcells
    have hnil : ∀ wx, (binOp .eql 32 (.slice (some ad) b.length cap) (.slice none 0 0)).run Try.prog wx = .ok (.bool false) wx := fun wx => by
      have := Lib.run_eql_slice_nil (P := Try.prog) wx 32 5 (some ad) b.length cap 0 0 Try.underlying32
      simpa using this
    go_enter Try.func24, Try.ntmps24
    go_wp2_with (at_builtin; refine wpList_append_own _ rfl _ _ 32 rfl w.heap.size 5 i5 (.int .u8 0) 1 1 Try.underlying32 hi5 hz0 hz1 hz2 rfl (by omega) _ 0 [] rfl ?own ad b.length cap (bts b) rfl ?c0 ?c1 ?c2 ?c3 ?c4 ?c5 ?_)
    case own =>
      exact own_of (Blk.new w #[] 5) (Nat.le_refl _) (Nat.le_refl _) (Nat.zero_le _) rfl rfl
    case c0 => rw [bts_len]; omega
    case c1 =>
      intro j u hu
      exact (Below.cell ((Below.refl _ w).alloc (Nat.le_refl _) _) (World.block_lt_of_cell? w _ (Hc.out j u hu))).trans (Hc.out j u hu)
    case c2 => exact bts_one b
    case c3 => unfold maxLen; omega
    case c4 => omega
    case c5 => simp
    intro v1 w1 hown hgr _
    have hm : Mod (fun _ => False) w w1 := by
      have := ((Mod.refl (fun _ => False) w).alloc (.cells #[] 5)).grown hgr (fun k hk => .inr (by simp [Value.ownBlock] at hk; omega))
      exact this
    have Hown := Lib.hid hown
    have Hm := Lib.hid hm
    clear hown hgr hm
    go_wp2
    go_ret
    exact ⟨_, rfl, Hown.out, Hm.out⟩

theorem clone_any (w : World) (base : Nat) (v : Value) (b : List UInt8) (hv : By w base v b) (hb : b.length ≤ 1000000) : Calls Try.prog 24 #[v] w (Cloned w b) := clone_rd w v b hv.rd hb
theorem or_neg (a b : Int) (ha : -9223372036854775808 ≤ a) (ha' : a ≤ 9223372036854775807) (hb : -9223372036854775808 ≤ b) (hb' : b ≤ 9223372036854775807) : Go.bits .or .i64 a b < 0 ↔ a < 0 ∨ b < 0 := by
  have tb : ∀ x : Int, -9223372036854775808 ≤ x → x ≤ 9223372036854775807 → ((BitVec.ofInt 64 x).toNat.testBit 63 = true ↔ x < 0) := by
    intro x h1 h2
    rw [BitVec.toNat_ofInt, Nat.testBit_eq_decide_div_mod_eq, decide_eq_true_iff]
    omega
  unfold Go.bits
  show IntKind.i64.wrap (((BitVec.ofInt 64 a ||| BitVec.ofInt 64 b).toNat : Nat) : Int) < 0 ↔ _
  rw [BitVec.toNat_or, IntKind.wrap_i64]
  have h := Nat.or_lt_two_pow (n := 64) (BitVec.ofInt 64 a).isLt (BitVec.ofInt 64 b).isLt
  have ht : ((BitVec.ofInt 64 a).toNat ||| (BitVec.ofInt 64 b).toNat).testBit 63 = true ↔ a < 0 ∨ b < 0 := by
    rw [Nat.testBit_or, Bool.or_eq_true, tb a ha ha', tb b hb hb']
  rw [Nat.testBit_eq_decide_div_mod_eq, decide_eq_true_iff] at ht
  generalize (BitVec.ofInt 64 a).toNat ||| (BitVec.ofInt 64 b).toNat = n at *
  rw [← ht]
  omega

/-- Are two nodes on one side? -/
def reach (s : Nat) (f t : Int) : Bool := decide (0 ≤ f ∧ f < 64 ∧ 0 ≤ t ∧ t < 64) && (s.testBit f.toNat == s.testBit t.toNat)
theorem side_eq (s i k : Nat) (hs : s < 18446744073709551616) : (Go.bits .and .u64 (Go.bits .xor .u64 ((s : Int) / 2 ^ i) ((s : Int) / 2 ^ k)) 1 == 0) = (s.testBit i == s.testBit k) := by
  have h1 : ∀ j : Nat, ((s : Int) / 2 ^ j) = ((s / 2 ^ j : Nat) : Int) := fun j => by rw [Int.natCast_ediv, Int.natCast_pow]; rfl
  have hlt : ∀ j, s / 2 ^ j < 18446744073709551616 := fun j => Nat.lt_of_le_of_lt (Nat.div_le_self _ _) hs
  rw [h1, h1, u64_xor_nat _ _ (hlt i) (hlt k), show (1 : Int) = ((1 : Nat) : Int) from rfl, u64_and_nat _ _ (Nat.xor_lt_two_pow (n := 64) (hlt i) (hlt k)) (by decide)]
  have hx : ((s / 2 ^ i ^^^ s / 2 ^ k) % 2 = 1) ↔ ¬ ((s / 2 ^ i % 2 = 1) ↔ (s / 2 ^ k % 2 = 1)) := by
    have h := Nat.testBit_xor (s / 2 ^ i) (s / 2 ^ k) 0
    rw [Nat.testBit_zero, Nat.testBit_zero, Nat.testBit_zero] at h
    by_cases ha : s / 2 ^ i % 2 = 1 <;> by_cases hb : s / 2 ^ k % 2 = 1 <;> simp [ha, hb] at h ⊢ <;> omega
  rw [Nat.and_one_is_mod, Nat.testBit_eq_decide_div_mod_eq, Nat.testBit_eq_decide_div_mod_eq, Bool.eq_iff_iff, beq_iff_eq, beq_iff_eq, decide_eq_decide]
  constructor
  · intro h
    by_cases hh : ((s / 2 ^ i % 2 = 1) ↔ (s / 2 ^ k % 2 = 1))
    · exact hh
    · have := hx.2 hh; omega
  · intro h
    have : ¬ ((s / 2 ^ i ^^^ s / 2 ^ k) % 2 = 1) := fun e => hx.1 e h
    omega

set_option maxHeartbeats 800000 in
theorem reach_any (g : Nat) (v : Value) (s : Nat) (f t : Int) (w : World) (hB : Blk w g #[v, .int .u64 s] 52) (hs : s < 18446744073709551616) (hf : -9223372036854775808 ≤ f) (hf' : f ≤ 9223372036854775807) (ht : -9223372036854775808 ≤ t) (ht' : t ≤ 9223372036854775807) :
    Calls Try.prog 17 #[.pointer (some ⟨g, 0, none⟩), .int .i64 f, .int .i64 t] w fun e w' => e = .returned (.bool (reach s f t)) ∧ Dr w w' := by
  have c1 : w.cell? ⟨g, 1, none⟩ = some (.int .u64 s) := hB.cell 1
  have hn := or_neg f t (by omega) (by omega) (by omega) (by omega)
  by_cases hneg : f < 0 ∨ t < 0
  · have hd : decide (Go.bits .or .i64 f t < 0) = true := by simp; omega
    have hr : reach s f t = false := by unfold reach; rw [decide_eq_false (by omega)]; rfl
    have Hr := Lib.hid hr
    clear hn hneg hr
    go_enter Try.func17, Try.ntmps17
    go_wp2
    go_ret
    rw [Hr.out]
    exact ⟨rfl, Dr.refl _⟩
  · have hd : decide (Go.bits .or .i64 f t < 0) = false := by simp; omega
    clear hn
    by_cases hin : f < 64 ∧ t < 64
    · have h1 := hin.1
      have h2 := hin.2
      have h3 : 0 ≤ f := by omega
      have h4 : 0 ≤ t := by omega
      have hr : (Go.bits .and .u64 (Go.bits .xor .u64 ((s : Int) / 2 ^ f.toNat) ((s : Int) / 2 ^ t.toNat)) 1 == 0) = reach s f t := by
        unfold reach; rw [side_eq s _ _ hs, decide_eq_true ⟨h3, h1, h4, h2⟩]; rfl
      have Hr := Lib.hid hr
      clear hr hin hneg
      by_cases hft : f < t
      all_goals
        go_enter Try.func17, Try.ntmps17
        go_wp2
        go_quiet (fail)
        go_wp2
        go_ret
        rw [Hr.out]
        exact ⟨rfl, Dr.of _ _⟩
    · have hr : reach s f t = false := by unfold reach; rw [decide_eq_false (by omega)]; rfl
      have Hr := Lib.hid hr
      have h3 : 0 ≤ f := by omega
      have h4 : 0 ≤ t := by omega
      clear hr hneg
      by_cases hft : f < t
      all_goals
        have hmx : (63 : Int) < (if f < t then t else f) := by split <;> omega
        go_enter Try.func17, Try.ntmps17
        go_wp2
        go_ret
        rw [Hr.out]
        exact ⟨rfl, Dr.refl _⟩
end Go.Proofs.Ytjhlabpnjkepbaa
