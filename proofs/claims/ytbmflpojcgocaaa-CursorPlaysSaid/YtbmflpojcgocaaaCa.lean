/-
  Contracts of cursor's small functions.
-/
import Derived.Test.YtbmflpojcgocaaaProg
import Derived.Test.YtbmflpojcgocaaaMem
import Derived.Test.YtbmflpojcgocaaaPure
import Derived.WalkKit
import Derived.Tactics2
import Derived.Outline
import Derived.KernelRfl
import Derived.Deep.QuietTactic
import Derived.BigQuiet
import Derived.LoopTactic
import Derived.Deep.LoopGhost
import Derived.Deep.DeepCutAuto
import Derived.Deep.RegionHeld3
import Derived.StillTailTactics
import Derived.Laws.BitsLemmas
namespace Go.Proofs.Ytbmflpojcgocaaa
open Go.RowKit Mem Pl

theorem or3 (c : Nat) (h : c < 9223372036854775807) : Go.bits .or .i64 (c : Int) 3 = ((c / 4 * 4 + 3 : Nat) : Int) := by
  have h1 := (bits_nat .i64 63 (by decide) (fun n h0 h1 => by rw [IntKind.wrap_i64]; omega) c 3 (by omega) (by omega)).2
  rw [show ((3 : Nat) : Int) = 3 from rfl] at h1
  rw [h1]
  congr 1
  have h2 := Nat.div_add_mod c 4
  have h3 : c / 4 * 4 ||| 3 = c / 4 * 4 + 3 := by
    have := Nat.two_pow_add_eq_or_of_lt (i := 2) (b := 3) (by omega) (c / 4)
    rw [Nat.mul_comm]; exact this.symm
  have h4 : c ||| 3 = c / 4 * 4 ||| 3 := by
    apply Nat.eq_of_testBit_eq
    intro i
    have e : c / 4 * 4 = c >>> 2 <<< 2 := by rw [Nat.shiftRight_eq_div_pow, Nat.shiftLeft_eq]
    rw [e, Nat.testBit_or, Nat.testBit_or, Nat.testBit_shiftLeft, Nat.testBit_shiftRight]
    by_cases hi : i < 2
    · have : i = 0 ∨ i = 1 := by omega
      rcases this with rfl | rfl <;> simp [Nat.testBit_succ]
    · simp only [ge_iff_le, show 2 ≤ i from by omega, decide_true, Bool.true_and, show 2 + (i - 2) = i from by omega]
  rw [h4, h3]


theorem ret_int {k : IntKind} {a b : Int} (h : a = b) : Ending.returned (.int k a) = .returned (.int k b) := by rw [h]

/-- A byte of a string, as a number. -/
def bt (s : ByteArray) (i : Nat) : Int := if h : i < s.size then ((s[i]'h).toNat : Int) else 0
theorem bt_at (s : ByteArray) (i : Nat) : ∀ h : i < s.size, ((s[i]'h).toNat : Int) = bt s i := fun h => by simp [bt, h]
theorem bt_range (s : ByteArray) (i : Nat) : 0 ≤ bt s i ∧ bt s i < 256 := by
  unfold bt
  split
  · have := (s[i]).toNat_lt; omega
  · omega
theorem bt_get (s : ByteArray) (i : Nat) (h : i < s.size) : ∃ b : UInt8, s.data.toList[i]? = some b ∧ bt s i = (b.toNat : Int) :=
  ⟨s[i], by rw [Array.getElem?_toList, Array.getElem?_eq_getElem (by exact h)]; rfl, by simp [bt, h]⟩

/-- The column behind a byte, over whole numbers. -/
def nxtI (c b : Int) : Int := if b = 9 then c / 4 * 4 + 4 else c + 1
theorem nxtI_eq (c : Nat) (b : UInt8) : nxtI (c : Int) (b.toNat : Int) = (nxt c b : Nat) := by
  unfold nxtI nxt
  by_cases h : b = 9
  · subst h; simp
  · rw [if_neg h, if_neg (fun e => h (UInt8.toNat_inj.1 (by simpa using (by omega : b.toNat = 9))))]; omega

set_option maxHeartbeats 400000 in
theorem next_any (col b : Int) (w : World) (h0 : 0 ≤ col) (h : col < 1000000000000) :
    Calls Try.prog 24 #[.int .i64 col, .int .u8 b] w fun e w' => e = .returned (.int .i64 (nxtI col b)) ∧ w = w' := by
  obtain ⟨c, rfl⟩ := Int.eq_ofNat_of_zero_le h0
  have ho := or3 c (by omega)
  by_cases h9 : b = 9
  · subst h9
    go_enter Try.func24, Try.ntmps24
    go_wp2
    go_ret
    exact ⟨ret_int (by simp [nxtI]; omega), rfl⟩
  · have hc : (b == 9) = false := beq_eq_false_iff_ne.2 h9
    go_enter Try.func24, Try.ntmps24
    go_wp2
    go_ret
    exact ⟨ret_int (by simp [nxtI, h9]), rfl⟩

theorem next_still (col b : Int) (w : World) (h0 : 0 ≤ col) (h : col < 1000000000000) :
    Calls Try.prog 24 #[.int .i64 col, .int .u8 b] w fun e w' => e = .returned (.int .i64 (nxtI col b)) ∧ w' = w :=
  (next_any col b w h0 h).mono fun _ _ ⟨he, hw⟩ => ⟨he, hw.symm⟩

/-- A cursor at a block. -/
def Cur (w : World) (g : Nat) (line : ByteArray) (s : St) : Prop := Blk w g #[.string line, .int .i64 s.at_, .int .i64 s.col, .int .i64 s.part] 40

theorem Cur.cells {w : World} {g : Nat} {line : ByteArray} {s : St} (h : Cur w g line s) :
    w.cell? ⟨g, 0, none⟩ = some (.string line) ∧ w.cell? ⟨g, 1, none⟩ = some (.int .i64 s.at_) ∧ w.cell? ⟨g, 2, none⟩ = some (.int .i64 s.col) ∧ w.cell? ⟨g, 3, none⟩ = some (.int .i64 s.part) :=
  ⟨h.cell 0, h.cell 1, h.cell 2, h.cell 3⟩
theorem Cur.frozens {w : World} {g : Nat} {line : ByteArray} {s : St} (h : Cur w g line s) :
    w.frozen? ⟨g, 0, none⟩ = false ∧ w.frozen? ⟨g, 1, none⟩ = false ∧ w.frozen? ⟨g, 2, none⟩ = false ∧ w.frozen? ⟨g, 3, none⟩ = false :=
  ⟨h.frozen 0, h.frozen 1, h.frozen 2, h.frozen 3⟩

/-- The byte that stands there, as a number. -/
theorem byte_ne (c k : UInt8) (h : c ≠ k) : ((c.toNat : Int) == (k.toNat : Int)) = false := by
  rw [beq_eq_false_iff_ne]; intro e; exact h (UInt8.toNat_inj.1 (by omega))

theorem bl_iff (b : UInt8) : isBl b = true ↔ (b.toNat : Int) = 32 ∨ (b.toNat : Int) = 9 := by
  unfold isBl
  rw [Bool.or_eq_true, beq_iff_eq, beq_iff_eq, ← UInt8.toNat_inj, ← UInt8.toNat_inj]
  simp only [UInt8.reduceToNat]
  omega

/-- What blanks answers. -/
def BlanksAre (l : ByteArray) (a c : Nat) (w : World) (e : Ending) (w' : World) : Prop :=
  e = .returned (.tuple #[.int .i64 ((ends l.data.toList (l.data.toList.length - a) a c).1 : Nat), .int .i64 ((ends l.data.toList (l.data.toList.length - a) a c).2 : Nat)]) ∧ Dr w w'

theorem ret_two {k : IntKind} {a b c d : Int} (h : a = b) (h' : c = d) : Ending.returned (.tuple #[.int k a, .int k c]) = .returned (.tuple #[.int k b, .int k d]) := by rw [h, h']
theorem drewN_drewN' (w : World) (a b : Nat) : (w.drewN a).drewN b = w.drewN (a + b) := World.drewN_drewN w a b

set_option maxHeartbeats 800000 in
theorem blanks_any (g : Nat) (line : ByteArray) (s : St) (w : World) (hC : Cur w g line s) (ha : s.at_ ≤ line.size) (hl : line.size ≤ 3100) (hc : s.col + s.part ≤ 100000) :
    Calls Try.prog 25 #[.pointer (some ⟨g, 0, none⟩)] w (BlanksAre line s.at_ (s.col + s.part) w) := by
  obtain ⟨c0, c1, c2, c3⟩ := hC.cells
  have hlen : line.data.toList.length = line.size := by rw [Array.length_toList]; rfl
  go_enter Try.func25, Try.ntmps25
  go_wp2
  go_quiet (fail)
  go_wp2
  go_loopw [2, 3] (fun i j wr => ∃ a c m : Nat, i = .int .i64 a ∧ j = .int .i64 c ∧ a ≤ line.size ∧ c ≤ 100000 + 4 * a ∧ Hid (ends line.data.toList (line.data.toList.length - a) a c = ends line.data.toList (line.data.toList.length - s.at_) s.at_ (s.col + s.part)) ∧ wr = w.drewN m) (fun i _ _ => line.size - (intOf i).toNat)
  case atStart => exact ⟨s.at_, s.col + s.part, _, rfl, by simp, ha, by omega, rfl, rfl⟩
  case round =>
    obtain ⟨a, c, m, rfl, rfl, h1, h2, h3, rfl⟩ := hrel
    have hbt := bt_at line a
    by_cases hlt : a < line.size
    · obtain ⟨b, hb, hbb⟩ := bt_get line a hlt
      have Hb := Lib.hid hbb
      clear hbb
      cases hbl : isBl b with
      | true =>
        have hst := Lib.hid (ends_step line.data.toList a c b hb hbl)
        have hn := nxt_le c b
        have Hn := Lib.hid (nxtI_eq c b)
        clear hb
        have fin : nxtI (c : Int) (bt line a) = (nxt c b : Nat) := by rw [Hb.out]; exact Hn.out
        have Fin := Lib.hid fin
        clear fin
        by_cases h32 : b = 32
        · have e32 : (bt line a == 32) = true := by rw [Hb.out, h32]; decide
          have H32 := Lib.hid h32
          clear h32 hbl
          go_wp2_with (go_at_call 24; refine (next_any _ _ _ (by omega) (by omega)).mono ?_; rintro e w' ⟨rfl, rfl⟩)
          go_roundw
          case rel => exact ⟨a + 1, nxt c b, m, by go_num, by rw [Fin.out], by omega, by omega, hst.out.symm.trans h3.out, rfl⟩
          case measure => simp [intOf]; omega
        · have e32 : (bt line a == 32) = false := by rw [Hb.out]; exact byte_ne b 32 h32
          have e9 : (bt line a == 9) = true := by
            have : b = 9 := by simpa [isBl, h32] using hbl
            rw [Hb.out, this]; decide
          have H32 := Lib.hid h32
          clear h32 hbl
          go_wp2_with (go_at_call 24; refine (next_any _ _ _ (by omega) (by omega)).mono ?_; rintro e w' ⟨rfl, rfl⟩)
          go_roundw
          case rel => exact ⟨a + 1, nxt c b, m, by go_num, by rw [Fin.out], by omega, by omega, hst.out.symm.trans h3.out, rfl⟩
          case measure => simp [intOf]; omega
      | false =>
        have hst := Lib.hid (ends_no line.data.toList a c b hb hbl)
        have e32 : (bt line a == 32) = false := by rw [Hb.out]; exact byte_ne b 32 (by rintro rfl; exact absurd hbl (by decide))
        have e9 : (bt line a == 9) = false := by rw [Hb.out]; exact byte_ne b 9 (by rintro rfl; exact absurd hbl (by decide))
        clear hb hbl
        go_wp2
        go_ret2
        exact ⟨ret_two (by rw [← h3.out, hst.out]) (by rw [← h3.out, hst.out]), ⟨m, rfl⟩⟩
    · have hst := Lib.hid (ends_end line.data.toList a c (by omega))
      go_wp2
      go_ret2
      exact ⟨ret_two (by rw [← h3.out, hst.out]) (by rw [← h3.out, hst.out]), ⟨m, rfl⟩⟩
end Go.Proofs.Ytbmflpojcgocaaa
