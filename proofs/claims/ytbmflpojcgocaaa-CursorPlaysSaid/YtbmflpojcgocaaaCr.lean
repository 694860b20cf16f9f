/-
  Contracts of the document's own cursor: step, Skip, Indent, Behind, Blank, Next, Rest, Move: they come to the same places.
-/
import Derived.Test.YtbmflpojcgocaaaCs
import Derived.Test.YtbmflpojcgocaaaPb
namespace Go.Proofs.Ytbmflpojcgocaaa
open Go.RowKit Mem Pl

/-- What is left of a line. -/
def tl (line : ByteArray) (a : Nat) : ByteArray := line.extract a line.size
theorem tl_list (line : ByteArray) (a : Nat) : (tl line a).data.toList = line.data.toList.drop a := ext_list line a
theorem tl_size (line : ByteArray) (a : Nat) : (tl line a).size = line.size - a := ext_size line a
theorem tl_tl (line : ByteArray) (a b : Nat) : (tl line a).extract b (tl line a).size = tl line (a + b) := by
  apply str_inj
  rw [ext_list, tl_list, tl_list, List.drop_drop]
theorem tl_empty (line : ByteArray) (a : Nat) : (tl line a).toList.isEmpty = decide (line.size ≤ a) := ext_empty line a
theorem tl_bt (line : ByteArray) (a i : Nat) : bt (tl line a) i = bt line (a + i) := by
  by_cases h : a + i < line.size
  · obtain ⟨b, hb, hbb⟩ := bt_get line (a + i) h
    obtain ⟨b', hb', hbb'⟩ := bt_get (tl line a) i (by rw [tl_size]; omega)
    rw [tl_list, List.getElem?_drop, hb] at hb'
    obtain rfl := Option.some.inj hb'
    rw [hbb, hbb']
  · unfold bt
    rw [dif_neg h, dif_neg (by rw [tl_size]; omega)]

/-- The document's cursor at a block. -/
def RCur (w : World) (g : Nat) (line : ByteArray) (s : St) : Prop := Blk w g #[.string (tl line s.at_), .int .i64 s.part, .int .i64 s.col] 32
theorem RCur.cells {w : World} {g : Nat} {line : ByteArray} {s : St} (h : RCur w g line s) :
    w.cell? ⟨g, 0, none⟩ = some (.string (tl line s.at_)) ∧ w.cell? ⟨g, 1, none⟩ = some (.int .i64 s.part) ∧ w.cell? ⟨g, 2, none⟩ = some (.int .i64 s.col) := ⟨h.cell 0, h.cell 1, h.cell 2⟩
theorem RCur.frozens {w : World} {g : Nat} {line : ByteArray} {s : St} (h : RCur w g line s) :
    w.frozen? ⟨g, 0, none⟩ = false ∧ w.frozen? ⟨g, 1, none⟩ = false ∧ w.frozen? ⟨g, 2, none⟩ = false := ⟨h.frozen 0, h.frozen 1, h.frozen 2⟩
theorem RCur.dr {w w' : World} {g : Nat} {line : ByteArray} {s : St} (h : RCur w g line s) (hd : Dr w w') : RCur w' g line s := Blk.dr h hd
theorem RCur.drewN {w : World} {g : Nat} {line : ByteArray} {s : St} (h : RCur w g line s) (n : Nat) : RCur (w.drewN n) g line s := h
theorem RCur.mod {S : Nat → Prop} {w w' : World} {g : Nat} {line : ByteArray} {s : St} (h : RCur w g line s) (hm : Mod S w w') (hg : ¬ S g) : RCur w' g line s := Blk.mod h hm hg
theorem RCur.lt {w : World} {g : Nat} {line : ByteArray} {s : St} (h : RCur w g line s) : g < w.heap.size := Blk.lt h
theorem RCur.set0 {w : World} {g : Nat} {line : ByteArray} {a c p : Nat} (h : RCur w g line ⟨a, c, p⟩) {L : ByteArray} {a' : Nat} (hL : L = tl line a') : RCur (w.setCell ⟨g, 0, none⟩ (.string L)) g line ⟨a', c, p⟩ := by subst hL; exact h.set 0 _
theorem RCur.set1 {w : World} {g : Nat} {line : ByteArray} {a c p : Nat} (h : RCur w g line ⟨a, c, p⟩) {x : Int} {x' : Nat} (hx : x = x') : RCur (w.setCell ⟨g, 1, none⟩ (.int .i64 x)) g line ⟨a, c, x'⟩ := by subst hx; exact h.set 1 _
theorem RCur.set2 {w : World} {g : Nat} {line : ByteArray} {a c p : Nat} (h : RCur w g line ⟨a, c, p⟩) {x : Int} {x' : Nat} (hx : x = x') : RCur (w.setCell ⟨g, 2, none⟩ (.int .i64 x)) g line ⟨a, x', p⟩ := by subst hx; exact h.set 2 _

theorem width_any (c : Int) (w : World) (h0 : 0 ≤ c) : Calls Try.prog 28 #[.int .i64 c] w fun e w' => e = .returned (.int .i64 (4 - c % 4)) ∧ w = w' := by
  go_enter Try.func28, Try.ntmps28
  go_wp2
  go_ret
  exact ⟨rfl, rfl⟩

/-- What step leaves. -/
def Stepped (g : Nat) (line : ByteArray) (s : St) (w : World) (e : Ending) (w' : World) : Prop :=
  Mod (· = g) w w' ∧ w'.heap.size = w.heap.size ∧ ((step1 line.data.toList s = none ∧ e = .returned (.bool false) ∧ RCur w' g line s) ∨ ∃ s', step1 line.data.toList s = some s' ∧ e = .returned (.bool true) ∧ RCur w' g line s')

set_option maxHeartbeats 1600000 in
theorem rstep_any (g : Nat) (line : ByteArray) (s : St) (w : World) (hC : RCur w g line s) (hF : Ok line.data.toList s) (hl : line.size ≤ 3100) :
    Calls Try.prog 27 #[.pointer (some ⟨g, 0, none⟩)] w (Stepped g line s w) := by
  obtain ⟨a, c, p⟩ := s
  obtain ⟨c0, c1, c2⟩ := hC.cells
  obtain ⟨f0, f1, f2⟩ := hC.frozens
  obtain ⟨h1, h2, h3⟩ := hF
  rw [size_list] at h1
  simp only at c0 c1 c2 h1 h2 h3
  by_cases hp : 0 < p
  · have hs : step1 line.data.toList ⟨a, c, p⟩ = some ⟨a, c + 1, p - 1⟩ := by unfold step1; rw [if_neg (by show ¬ p = 0; omega)]
    have Hs := Lib.hid hs
    clear hs
    go_enter Try.func27, Try.ntmps27
    go_wp2
    go_ret
    exact ⟨mod_set (mod_set (Mod.refl _ _) _) _, by simp, .inr ⟨_, Hs.out, rfl, RCur.set2 (RCur.set1 hC (by omega)) (by omega)⟩⟩
  · obtain rfl : p = 0 := by omega
    obtain ⟨L, hL⟩ : ∃ L, tl line a = L := ⟨_, rfl⟩
    have hLe := tl_empty line a
    have hLs := tl_size line a
    have hLb := tl_bt line a 0
    have hLt := tl_tl line a 1
    rw [hL] at c0 hLe hLs hLb hLt
    have HL := Lib.hid hL
    clear hL
    by_cases hlt : a < line.size
    · obtain ⟨b, hb, hbb⟩ := bt_get line a hlt
      rw [Nat.add_zero, hbb] at hLb
      have hbt := bt_at L 0
      have hne : L.toList.isEmpty = false := by rw [hLe]; simp; omega
      have hpos : 0 < L.size := by omega
      have HLb := Lib.hid hLb
      have HLt := Lib.hid hLt
      have hng := nxt_gt c b
      cases hbl : isBl b with
      | true =>
        have hb2 := (bl_iff b).1 hbl
        have hs : step1 line.data.toList ⟨a, c, 0⟩ = some ⟨a + 1, c + 1, nxt c b - c - 1⟩ := by simp [step1, hb, hbl]
        by_cases h32 : (b.toNat : Int) = 32
        · have e32 : (bt L 0 != 32) = false := by rw [bne_eq_false_iff_eq, HLb.out]; exact h32
          have e9 : (bt L 0 == 9) = false := by rw [beq_eq_false_iff_ne, HLb.out]; omega
          have hnx : nxt c b = c + 1 := by
            have : b = 32 := UInt8.toNat_inj.1 (by simpa using (by omega : b.toNat = 32))
            subst this; simp [nxt]
          rw [hnx, show c + 1 - c - 1 = 0 from by omega] at hs
          have Hs := Lib.hid hs
          clear hs hLe hLs hLb hLt hb hbl hb2 h32 hnx hng
          go_enter Try.func27, Try.ntmps27
          go_wp2
          go_ret
          exact ⟨mod_set (mod_set (Mod.refl _ _) _) _, by simp, .inr ⟨_, Hs.out, rfl, RCur.set2 (RCur.set0 hC HLt.out) (by omega)⟩⟩
        · have e32 : (bt L 0 != 32) = true := by rw [bne_iff_ne, HLb.out]; exact h32
          have e9 : (bt L 0 == 9) = true := by rw [beq_iff_eq, HLb.out]; omega
          have e9' : (bt L 0 != 9) = false := by rw [bne_eq_false_iff_eq, HLb.out]; omega
          have hnx : nxt c b = c / 4 * 4 + 4 := by
            have : b = 9 := UInt8.toNat_inj.1 (by simpa using (by omega : b.toNat = 9))
            subst this; simp [nxt]
          rw [hnx] at hs
          have Hs := Lib.hid hs
          clear hs hLe hLs hLb hLt hb hbl hb2 h32 hnx hng
          go_enter Try.func27, Try.ntmps27
          go_wp2_with (go_at_call 28; refine (width_any _ _ (by omega)).mono ?_; rintro e w' ⟨rfl, rfl⟩)
          go_ret
          exact ⟨mod_set (mod_set (mod_set (Mod.refl _ _) _) _) _, by simp, .inr ⟨_, Hs.out, rfl, RCur.set2 (RCur.set0 (RCur.set1 hC (by omega)) HLt.out) (by omega)⟩⟩
      | false =>
        have hb2 : ¬ ((b.toNat : Int) = 32 ∨ (b.toNat : Int) = 9) := by rw [← bl_iff, hbl]; simp
        have e32 : (bt L 0 != 32) = true := by rw [bne_iff_ne, HLb.out]; omega
        have e9 : (bt L 0 != 9) = true := by rw [bne_iff_ne, HLb.out]; omega
        have hs : step1 line.data.toList ⟨a, c, 0⟩ = none := by simp [step1, hb, hbl]
        have Hs := Lib.hid hs
        clear hs hLe hLs hLb hLt hb hbl hb2 hng
        go_enter Try.func27, Try.ntmps27
        go_wp2
        go_ret
        exact ⟨Mod.refl _ _, rfl, .inl ⟨Hs.out, rfl, hC⟩⟩
    · have hne : L.toList.isEmpty = true := by rw [hLe]; simp; omega
      have hs : step1 line.data.toList ⟨a, c, 0⟩ = none := by
        have : line.data.toList[a]? = none := by rw [List.getElem?_eq_none_iff, size_list]; omega
        simp [step1, this]
      have Hs := Lib.hid hs
      clear hs hLe hLs hLb hLt
      go_enter Try.func27, Try.ntmps27
      go_wp2
      go_ret
      exact ⟨Mod.refl _ _, rfl, .inl ⟨Hs.out, rfl, hC⟩⟩
end Go.Proofs.Ytbmflpojcgocaaa
