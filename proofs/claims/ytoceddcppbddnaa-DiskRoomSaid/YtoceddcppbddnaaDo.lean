/-
  What is shown at the start; a beginning of bytes.
-/
import Derived.Test.YtoceddcppbddnaaDn
import Derived.Lib.SlBytesConst
import Derived.Lib.SmallJoins
namespace Go.Proofs.Ytoceddcppbddnaa
open Go.RowKit Mem Go.Maps
set_option linter.unusedVariables false
set_option linter.unusedSimpArgs false

/-- Bytes out of the program's text. -/
theorem rd_const (w : World) (l : Bs) (fz : Nat × Nat) (n c : Nat) (hn : n = l.length) (cs : Array Value) (hc : cs.toList = bts l) : Rd (w.alloc (.cells cs 5 fz)) (.slice (some ⟨w.heap.size, 0, none⟩) n c) l := by
  subst hn
  refine .inr ⟨⟨w.heap.size, 0, none⟩, c, rfl, fun j u hu => ?_⟩
  rw [Addr.add_lit, Nat.zero_add]
  rw [← hc] at hu
  unfold World.cell?
  have : (w.alloc (.cells cs 5 fz)).heap[w.heap.size]? = some (.cells cs 5 fz) := by
    show (w.heap.push _)[w.heap.size]? = _
    simp
  rw [this]
  simpa using hu
/-- A slice that reads, with its room. -/
def RdC (w : World) (v : Value) (l : Bs) : Prop := Rd w v l ∧ ∃ a c, v = .slice a l.length c ∧ l.length ≤ c ∧ c ≤ maxLen
theorem RdC.mod {S : Nat → Prop} {w w' : World} {v : Value} {b : Bs} (h : RdC w v b) (hm : Mod S w w') (hS : ∀ g, v.ownBlock = some g → ¬ S g) : RdC w' v b := ⟨h.1.mod hm hS, h.2⟩
theorem rdc_own {w : World} {base : Nat} {v : Value} {b : Bs} (h : w.ownsRow base 5 1 v b.length (bts b)) : RdC w v b := by
  refine ⟨rd_own h, ?_⟩
  rcases own_cases h with ⟨rfl, hn, hx⟩ | ⟨g, cap, cur, rfl, hg, hB, hn, hc, hs, hx⟩
  · exact ⟨none, 0, by rw [hn], by omega, by unfold maxLen; omega⟩
  · exact ⟨_, cap, rfl, hn, hc⟩
theorem Rd.take {w : World} {a : Option Addr} {n c : Nat} {l : Bs} (h : Rd w (.slice a n c) l) (k c' : Nat) (hk : k ≤ l.length) : Rd w (.slice a k c') (l.take k) ∨ (a = none ∧ k = 0) := by
  rcases h with ⟨hv, rfl⟩ | ⟨ad, c2, hv, hc⟩
  · injection hv with e1 e2 e3
    exact .inr ⟨e1, by simpa using hk⟩
  · injection hv with e1 e2 e3
    subst e1 e2
    left
    refine .inr ⟨ad, c', ?_, fun j u hu => ?_⟩
    · rw [List.length_take, Nat.min_eq_left hk]
    · rw [bts_take] at hu
      have := (List.getElem?_eq_some_iff.1 hu).1
      rw [List.length_take] at this
      rw [List.getElem?_take_of_lt (by omega)] at hu
      exact hc j u hu
/-- The text of the first bytes. -/
theorem text_take {w : World} {a : Option Addr} {n c : Nat} {l : Bs} (h : Rd w (.slice a n c) l) (k c' : Nat) (hk : k ≤ l.length) : (convert 22 9 (.slice a k c')).run Try.prog w = .ok (.string (sv (l.take k))) w := by
  rcases h.take k c' hk with h1 | ⟨rfl, rfl⟩
  · exact h1.text
  · rw [List.take_zero]
    exact run_convert_bytes_nil w 22 5 Try.underlying22 Try.underlying5 0 c' 9 Try.underlying9
set_option maxHeartbeats 800000 in
theorem begins_any (w : World) (a b : Value) (l m : Bs) (ha : RdC w a l) (hb : RdC w b m) : Calls Try.prog 16 #[a, b] w fun e w' => e = .returned (.bool (decide (l.length ≤ m.length) && (m.take l.length == l))) ∧ Mod (fun _ => False) w w' := by
  obtain ⟨ha1, aa, ac, rfl, ha2, ha3⟩ := ha
  obtain ⟨hb1, ba, bc, rfl, hb2, hb3⟩ := hb
  by_cases hle : l.length ≤ m.length
  · have q1 : (l.length : Int) ≤ (m.length : Int) := by omega
    have t1 := fun n => (ha1.mod ((Mod.refl (fun _ => False) w).drewN n) (fun _ _ h => h)).text
    have t2 := fun n => text_take (hb1.mod ((Mod.refl (fun _ => False) w).drewN n) (fun _ _ h => h)) l.length bc hle
    have HR : Hid ((decide (l.length ≤ m.length) && (m.take l.length == l)) = ((sv (m.take l.length)).toList == (sv l).toList)) := Lib.hid (by rw [sv_beq, decide_eq_true hle, Bool.true_and])
    have hlc : l.length ≤ bc := by omega
    clear ha1 hb1 ha3 hb3 hle
    go_enter Try.func16, Try.ntmps16
    go_wp2
    go_quiet (fail)
    go_wp2
    go_ret
    exact ⟨ret_bool (by rw [HR.out]), (Mod.refl _ _).drewN _⟩
  · have q1 : ¬ (l.length : Int) ≤ (m.length : Int) := by omega
    have q2 : decide (l.length ≤ m.length) = false := decide_eq_false hle
    have HR : Hid ((decide (l.length ≤ m.length) && (m.take l.length == l)) = false) := Lib.hid (by rw [decide_eq_false hle]; rfl)
    clear ha1 hb1 ha3 hb3 hle ha2 hb2
    go_enter Try.func16, Try.ntmps16
    go_wp2
    go_quiet (fail)
    go_wp2
    go_ret
    exact ⟨ret_bool (by rw [HR.out]), (Mod.refl _ _).drewN _⟩
/-! ### What is shown -/
theorem shown1 : appendA ⟨10, [], false, none, 0⟩ [97] [120, 121, 122] = (⟨10, [([97], [120, 121, 122], 0)], false, none, 0⟩, 0) := by kernel_rfl
theorem shown2 : syncA ⟨10, [([97], [120, 121, 122], 0)], false, none, 0⟩ [97] = (⟨10, [([97], [120, 121, 122], 3)], false, none, 0⟩, 0) := by kernel_rfl
theorem shown3 : appendA ⟨10, [([97], [120, 121, 122], 3)], false, none, 0⟩ [97] [117, 118, 119] = (⟨10, [([97], [120, 121, 122, 117, 118, 119], 3)], false, none, 0⟩, 0) := by kernel_rfl
theorem shown4 : crashA 2 ⟨10, [([97], [120, 121, 122, 117, 118, 119], 3)], false, none, 0⟩ = ⟨10, [([97], [120, 121, 122, 117, 118], 5)], true, none, 1⟩ := by kernel_rfl
theorem shown5 : startA ⟨10, [([97], [120, 121, 122, 117, 118], 5)], true, none, 1⟩ = ⟨10, [([97], [120, 121, 122, 117, 118], 5)], false, none, 1⟩ := rfl
theorem shown6 : readA ⟨10, [([97], [120, 121, 122, 117, 118], 5)], false, none, 1⟩ [97] = ([120, 121, 122, 117, 118], 0) := by kernel_rfl
theorem shown7 : (appendA ⟨10, [([97], [120, 121, 122, 117, 118], 5)], false, none, 1⟩ [98] [49, 50, 51, 52, 53, 54]).2 = 14 := by kernel_rfl
set_option maxRecDepth 100000 in
set_option maxHeartbeats 1600000 in
theorem shown_any (w : World) : Calls Try.prog 9 #[] w fun e w' => e = .returned (.bool true) ∧ Mod (fun _ => False) w w' := by
  have kc := fun (w : World) (C : Array Value) (n c : Nat) => Lib.run_convert_bytes_const (P := Try.prog) w 22 5 C n c Try.underlying22 Try.underlying5
  have M := fun (w : World) (o : Obj) => (Mod.refl (fun _ => False) w).alloc o
  go_enter Try.func9, Try.ntmps9
  go_wp2_with (fail)
  refine (run_new w 10 (by decide)).mono ?_
  rintro e w1 ⟨d, X1, rfl, s1⟩
  replace s1 : Run w d X1 ⟨10, [], false, none, 0⟩ w1 := s1
  go_wp2_with (fail)
  refine (run_append (s1.still (M _ _)) [97] _ [120, 121, 122] (rd_const w1 _ _ _ _ rfl _ rfl) (by decide) (by decide) (by decide) (by decide)).mono ?_
  rintro e w2 ⟨X2, rfl, s2, -⟩
  rw [shown1] at s2 ⊢
  go_wp2_with (fail)
  refine (run_sync s2 [97] (by decide) (by decide)).mono ?_
  rintro e w3 ⟨X3, rfl, s3, -⟩
  rw [shown2] at s3 ⊢
  go_wp2_with (fail)
  refine (run_append (s3.still (M _ _)) [97] _ [117, 118, 119] (rd_const w3 _ _ _ _ rfl _ rfl) (by decide) (by decide) (by decide) (by decide)).mono ?_
  rintro e w4 ⟨X4, rfl, s4, -⟩
  rw [shown3] at s4 ⊢
  go_wp2_with (fail)
  refine (run_crash s4 2 (by decide) (by decide)).mono ?_
  rintro e w5 ⟨X5, rfl, s5, -⟩
  rw [shown4] at s5
  go_wp2_with (fail)
  refine (run_up s5).mono ?_
  rintro e w6 ⟨rfl, rfl⟩
  go_wp2_with (fail)
  refine (run_start s5).mono ?_
  rintro e w7 ⟨X7, rfl, s7, -⟩
  rw [shown5] at s7
  go_wp2_with (fail)
  refine (run_read s7 [97] (by decide)).mono ?_
  rintro e w8 ⟨v, rfl, hrow, hm8⟩
  rw [shown6] at hrow ⊢
  have s8 := s7.still hm8
  have ht := (rd_own hrow).text
  obtain ⟨va, vc, hv, _, _⟩ := (rdc_own hrow).2
  subst hv
  have ht' : (convert 22 9 (.slice va 5 vc)).run Try.prog w8 = .ok (.string (sv [120, 121, 122, 117, 118])) w8 := ht
  have heq : (sv [120, 121, 122, 117, 118]).toList = [120, 121, 122, 117, 118] := sv_toList _
  clear ht s1 s2 s3 s4 s5 s7 hrow hm8
  go_wp2_with (fail)
  refine (run_append (s8.still (M _ _)) [98] _ [49, 50, 51, 52, 53, 54] (rd_const w8 _ _ _ _ rfl _ rfl) (by decide) (by decide) (by decide) (by decide)).mono ?_
  rintro e w9 ⟨X9, rfl, s9, -⟩
  rw [shown7]
  go_wp2
  go_ret
  exact ⟨rfl, s9.mod⟩
end Go.Proofs.Ytoceddcppbddnaa
