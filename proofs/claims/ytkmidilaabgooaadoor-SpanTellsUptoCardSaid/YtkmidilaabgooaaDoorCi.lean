/-
  strings.IndexRune, at a rune that is no byte of ASCII, in a text of such bytes alone.
-/
import Derived.Test.YtkmidilaabgooaaDoorCc
import Derived.Laws.RangeAny
import Derived.Laws.Strings3
import Derived.WalkMore
namespace Go.Proofs.YtkmidilaabgooaaDoor
open Go.RowKit Mem
set_option linter.unusedVariables false
set_option linter.unusedSimpArgs false

abbrev bads : Bs := [9, 10, 32, 34, 39, 61, 60, 62, 96]
theorem bads_low : ∀ b ∈ bads, b.toNat < 128 := by decide
theorem far_idx (x : UInt8) (hx : 128 ≤ x.toNat) (o : Bs) (ho : ∀ b ∈ o, b.toNat < 128) : Lib.indexByte o x = -1 := by
  obtain ⟨h1, h2⟩ := has_idx x o
  have : o.contains x = false := by
    cases hc : o.contains x with
    | false => rfl
    | true =>
      have := ho x (by simpa using hc)
      omega
  rw [this, decide_eq_false_iff_not] at h2
  omega
theorem enc_last (r : Int) (h : 128 ≤ r) (hv : Lib.validRune r = true) : ∃ (n : Nat) (x : UInt8), (n = 1 ∨ n = 2 ∨ n = 3) ∧ (Utf8.encode r).size = n + 1 ∧ (∀ h, (Utf8.encode r)[n]'h = x) ∧ 128 ≤ x.toNat := by
  have hv' : Utf8.valid r = true := by
    unfold Lib.validRune at hv
    unfold Utf8.valid
    simp at hv ⊢
    omega
  have hlt : ∀ m, (UInt8.ofNat (128 + m % 64)).toNat = 128 + m % 64 := fun m => by
    have : m % 64 < 64 := Nat.mod_lt _ (by decide)
    simp [UInt8.toNat_ofNat']
    omega
  unfold Utf8.encode
  rw [if_pos hv']
  dsimp only
  rw [if_neg (by omega)]
  split
  · exact ⟨1, UInt8.ofNat (128 + r.toNat % 64), .inl rfl, rfl, fun _ => rfl, by rw [hlt]; omega⟩
  · split
    · exact ⟨2, UInt8.ofNat (128 + r.toNat % 64), .inr (.inl rfl), rfl, fun _ => rfl, by rw [hlt]; omega⟩
    · exact ⟨3, UInt8.ofNat (128 + r.toNat % 64), .inr (.inr rfl), rfl, fun _ => rfl, by rw [hlt]; omega⟩
theorem sv_ext (l : Bs) (a b : Nat) : (sv l).extract a b = sv ((l.take b).drop a) := by
  apply ByteArray.ext; apply Array.toList_inj.1
  simp [sv, List.drop_take]
theorem mod_iter (w : World) (s : ByteArray) (i : Nat) : Mod (fun _ => False) w (w.iter s i) := (Mod.refl _ _).alloc _

set_option maxRecDepth 1000000 in
set_option maxHeartbeats 2000000 in
theorem rune_far (r : Int) (h : 128 ≤ r) (w : World) : Calls Tryd.prog 75 #[.string (sv bads), .int .i32 r] w fun e w' => e = .returned (.int .i64 (-1)) ∧ Mod (fun _ => False) w w' := by
  have hsz : (sv bads).size = 9 := rfl
  have h0 : (0 : Int) ≤ r := by omega
  by_cases he : r = 65533
  · subst he
    go_enter Tryd.func75, Tryd.ntmps75
    go_wp2
    go_loopg [5, 6] 9 (fun g _ _ wx => ∃ i : Nat, i + g = 9 ∧ wx = w.iter (sv bads) i)
    case atStart => exact ⟨0, by omega, rfl⟩
    case round =>
      obtain ⟨i, hig, rfl⟩ := hrel
      cases gk with
      | zero =>
        obtain rfl : i = 9 := by omega
        have hnx := fun ty => run_next_end (P := Tryd.prog) w (sv bads) 9 ty (by rw [hsz]; omega)
        go_wp2
        go_ret
        exact ⟨rfl, mod_iter _ _ _⟩
      | succ g =>
        have hi : i < (sv bads).size := by rw [hsz]; omega
        have hi' : i < bads.length := hi
        obtain ⟨x, hx⟩ : ∃ x : UInt8, (sv bads)[i]'hi = x := ⟨_, rfl⟩
        have hx128 : x.toNat < 128 := by rw [← hx]; exact bads_low _ (List.getElem_mem hi')
        have hnx := fun ty => run_next_ascii (P := Tryd.prog) w (sv bads) i ty hi (by rw [hx]; exact hx128)
        rw [hx] at hnx
        have hne : ((x.toNat : Int) == 65533) = false := beq_eq_false_iff_ne.2 (by omega)
        clear hx hi'
        go_wp2
        go_roundg g
        case measure => omega
        case rel => exact ⟨i + 1, by omega, rfl⟩
  · have hne : (r == 65533) = false := beq_eq_false_iff_ne.2 he
    have hnlt : ¬ r < 128 := by omega
    rcases hv : Lib.validRune r with _ | _
    · have hvr := fun w => Tryd.utf8_ValidRune r w
      rw [hv] at hvr
      clear hv he
      go_enter Tryd.func75, Tryd.ntmps75
      go_wp2_with (fail)
      refine (hvr _).mono ?_
      rintro e w' ⟨rfl, rfl⟩
      go_wp2
      go_ret
      exact ⟨rfl, Mod.refl _ _⟩
    · have hvr := fun w => Tryd.utf8_ValidRune r w
      rw [hv] at hvr
      obtain ⟨n, x, hn, e1, e2, hx⟩ := enc_last r h hv
      obtain ⟨R, hR⟩ : ∃ R, Utf8.encode r = R := ⟨_, rfl⟩
      rw [hR] at e1
      have e2' : ∀ h, R[n]'h = x := by subst hR; exact e2
      clear hv he e2
      have hlast : ((R.size : Nat) : Int) - 1 = (n : Int) := by omega
      have hb : ∀ (k : Nat) (hk : k < (sv bads).size), (sv bads)[k].toNat < 128 := fun k hk => bads_low _ (List.getElem_mem (l := bads) hk)
      go_enter Tryd.func75, Tryd.ntmps75
      go_wp2_with (fail)
      refine (hvr _).mono ?_
      rintro e w' ⟨rfl, rfl⟩
      have hcv : ∀ w : World, (convert 21 9 (.int .i32 r)).run Tryd.prog w = .ok (.string R) w := fun w => by
        rw [run_convert_int_string w 21 9 .i32 r (by rw [Tryd.underlying21]; rfl) Tryd.underlying9, hR]
      have hie : ∀ w, Calls Tryd.prog 21 #[.string (sv (bads.drop (n + 1))), .int .u8 (x.toNat : Int)] w fun e w' => e = .returned (.int .i64 (-1)) ∧ w' = w := fun w => by
        have := idx_any (bads.drop (n + 1)) x w
        rw [far_idx x hx _ (fun b hb => bads_low b (List.mem_of_mem_drop hb))] at this
        exact this
      have hxt : ((sv bads).extract (n + 1) 9) = sv (bads.drop (n + 1)) := by rw [sv_ext]; rfl
      have hbn : ∀ h, (((sv bads)[n]'h).toNat : Int) < 128 := fun h => by have := hb n h; omega
      have hx' : (128 : Int) ≤ (x.toNat : Int) := by omega
      have hn9 : n < (sv bads).size := by rw [hsz]; omega
      obtain ⟨y, hy⟩ : ∃ y, (sv bads)[n]'hn9 = y := ⟨_, rfl⟩
      have hy' : ∀ h, (sv bads)[n]'h = y := fun _ => hy
      have hne2 : ((y.toNat : Int) == (x.toNat : Int)) = false := beq_eq_false_iff_ne.2 (by have := hbn hn9; rw [hy] at this; omega)
      have hq1 : (n : Int) < 9 := by omega
      have hq2 : (n : Int) + 1 ≤ 9 := by omega
      have hq3 : (0 : Int) ≤ (n : Int) + 1 := by omega
      have hq4 : ((n : Int) + 1).toNat = n + 1 := by omega
      have hq5 : (n : Int) < (R.size : Int) := by omega
      have hsz' : ((sv bads).size : Int) = 9 := by rw [hsz]; rfl
      have hn0 : (0 : Int) ≤ (n : Int) := by omega
      clear hy hbn hb hx hn hR hn9
      go_wp2
      go_step3
      go_wp2
      go_loop [9] (fun i => i = .int .i64 n) (fun _ => 0)
      case atStart => go_num
      case round =>
        subst hrel
        go_wp2_with (fail)
        go_step3
        go_wp2_with (fail)
        refine region_calm (by kernel_rfl) (by kernel_rfl) ?_
        repeat (go_big_quiet_step (fail))
        refine calm_end (fun w6 hm6 => ?_)
        have Hm6 := Lib.hid hm6
        clear hm6
        go_wp2_with (fail)
        refine region_calm (by kernel_rfl) (by kernel_rfl) ?_
        repeat (go_big_quiet_step (first | (go_at_call 21; exact calm_eq' (hie _))))
        refine calm_end (fun w7 hm7 => ?_)
        have Hm7 := Lib.hid (Hm6.out.trans hm7 (fun _ h => h.elim))
        clear hm7
        go_wp2
        rw [Exit.noGoto_ret]
        go_wp2
        rw [Exit.noGoto_ret]
        go_ret
        exact ⟨rfl, Hm7.out⟩
end Go.Proofs.YtkmidilaabgooaaDoor
