/-
  A scan's some.
-/
import Derived.Test.YtkmidilaabgooaaDoorCa
namespace Go.Proofs.YtkmidilaabgooaaDoor
open Go.RowKit Mem
set_option linter.unusedVariables false
set_option linter.unusedSimpArgs false

/-- A scan in memory. -/
def Scn (w : World) (g : Nat) (l : Bs) : Prop := Blk w g #[.string (sv l)] 49
theorem Scn.cell {w : World} {g : Nat} {l : Bs} (h : Scn w g l) : w.cell? ⟨g, 0, none⟩ = some (.string (sv l)) := by rw [Blk.cell h]; rfl
theorem Scn.frozen {w : World} {g : Nat} {l : Bs} (h : Scn w g l) : w.frozen? ⟨g, 0, none⟩ = false := Blk.frozen h 0
theorem Scn.dr {w w' : World} {g : Nat} {l : Bs} (h : Scn w g l) (hd : Dr w w') : Scn w' g l := Blk.dr h hd
theorem Scn.set {w : World} {g : Nat} {l m : Bs} (h : Scn w g l) : Scn (w.setCell ⟨g, 0, none⟩ (.string (sv m))) g m := Blk.set h 0 _
theorem Scn.lt {w : World} {g : Nat} {l : Bs} (h : Scn w g l) : g < w.heap.size := Blk.lt h
theorem Scn.mod {S : Nat → Prop} {w w' : World} {g : Nat} {l : Bs} (h : Scn w g l) (hm : Mod S w w') (hg : ¬ S g) : Scn w' g l := Blk.mod h hm hg
theorem Scn.new (w : World) (l : Bs) : Scn (w.alloc (.cells #[.string (sv l)] 49)) w.heap.size l := Blk.new _ _ _
/-- A call that worked on a scan. -/
structure Did (w w' : World) (g : Nat) (l : Bs) : Prop where
  s : Scn w' g l
  m : Mod (· = g) w w'
theorem Did.trans {w w' w'' : World} {g : Nat} {l m : Bs} (h : Did w w' g l) (k : Did w' w'' g m) : Did w w'' g m := ⟨k.s, h.m.trans k.m (fun _ h => .inl h)⟩
theorem Did.set {w w' : World} {g : Nat} {l m : Bs} (h : Did w w' g l) : Did w (w'.setCell ⟨g, 0, none⟩ (.string (sv m))) g m := ⟨h.s.set, h.m.setCell (.inl rfl) _⟩
theorem Did.dr {w w' w'' : World} {g : Nat} {l : Bs} (h : Did w w' g l) (hd : Dr w' w'') : Did w w'' g l := ⟨h.s.dr hd, h.m.trans (T := fun _ => False) hd.mod (fun _ h => h.elim)⟩
theorem Did.of {w : World} {g : Nat} {l : Bs} (h : Scn w g l) : Did w w g l := ⟨h, Mod.refl _ _⟩

theorem tw_at (p : UInt8 → Bool) : ∀ (l : Bs) (k : Nat), k ≤ l.length → (∀ j (hj : j < l.length), j < k → p l[j] = true) → (∀ h : k < l.length, p l[k] = false) → (l.takeWhile p).length = k ∧ l.dropWhile p = l.drop k ∧ l.takeWhile p = l.take k
  | [], k, hk, _, _ => by
    have : k = 0 := by simpa using hk
    subst this; exact ⟨rfl, rfl, rfl⟩
  | b :: l, 0, _, _, h => by
    have hb : p b = false := h (Nat.succ_pos _)
    simp [List.takeWhile_cons, List.dropWhile_cons, hb]
  | b :: l, k + 1, hk, ha, h => by
    have hb : p b = true := ha 0 (Nat.succ_pos _) (Nat.succ_pos _)
    have ih := tw_at p l k (by simpa using hk) (fun j hj hjk => ha (j + 1) (by simpa using hj) (by omega)) (fun h1 => h (by simpa using h1))
    simp [List.takeWhile_cons, List.dropWhile_cons, hb, ih]
    exact Nat.min_eq_left (by simpa using hk)
theorem sv_take (l : Bs) (k : Nat) : (sv l).extract 0 k = sv (l.take k) := by
  apply ByteArray.ext; apply Array.toList_inj.1
  simp [sv]
theorem sv_drop (l : Bs) (k n : Nat) (hn : n = l.length) : (sv l).extract k n = sv (l.drop k) := by
  subst hn
  apply ByteArray.ext; apply Array.toList_inj.1
  simp [sv]
  exact List.take_of_length_le (by simp)

set_option maxRecDepth 100000 in
set_option maxHeartbeats 1600000 in
theorem some_any (g : Nat) (p q : Bool) (o l : Bs) (w : World) (hS : Scn w g l) (hl : l.length ≤ 9223372036854775807) :
    Calls Tryd.prog 31 #[.pointer (some ⟨g, 0, none⟩), .bool p, .bool q, .string (sv o)] w fun e w' => e = .returned (.int .i64 ((l.takeWhile (isB p q o)).length : Nat)) ∧ Did w w' g (l.dropWhile (isB p q o)) := by
  have hsz := sv_size l
  have HL := Lib.hid hl
  have HS := Lib.hid hS
  have htl := sv_toList l
  clear hS
  have hc := HS.out.cell
  have hf := HS.out.frozen
  go_enter Tryd.func31, Tryd.ntmps31
  go_wp2
  go_loop [9] (fun i => ∃ k : Nat, i = .int .i64 k ∧ k ≤ l.length ∧ Hid (∀ j (hj : j < l.length), j < k → isB p q o l[j] = true)) (fun i => l.length - (intOf i).toNat)
  case atStart => exact ⟨0, rfl, by omega, Lib.hid (fun j hj h => by omega)⟩
  case round =>
    obtain ⟨k, rfl, hk, hall⟩ := hrel
    have key : (∀ h : k < l.length, isB p q o l[k] = false) → Hid ((l.takeWhile (isB p q o)).length = k ∧ l.dropWhile (isB p q o) = l.drop k ∧ l.takeWhile (isB p q o) = l.take k) := fun h => Lib.hid (tw_at _ l k hk hall.out h)
    have hq1 : (k : Int) ≤ (l.length : Int) := by omega
    have t1 := sv_drop l k l.length rfl
    have hfin : Hid (Did w (w.setCell ⟨g, 0, none⟩ (.string (sv (l.drop k)))) g (l.drop k)) := Lib.hid (Did.set (Did.of HS.out))
    by_cases hlt : k < l.length
    · have hq : (k : Int) < (l.length : Int) := by omega
      obtain ⟨b, hb⟩ : ∃ b, l[k] = b := ⟨_, rfl⟩
      have hget : ∀ h, (sv l)[k]'h = b := fun _ => hb
      rcases hB : isB p q o b with _ | _
      · have Hk := key (fun _ => by rw [hb]; exact hB)
        have hi := is_any b p q o
        rw [hB] at hi
        clear key hB hall
        go_wp2_with (fail)
        refine (hi _).mono ?_
        rintro e w' ⟨rfl, rfl⟩
        go_wp2
        go_ret
        exact ⟨ret_int (by rw [Hk.out.1]), by rw [Hk.out.2.1]; exact hfin.out⟩
      · have hi := is_any b p q o
        rw [hB] at hi
        have Hall : Hid (∀ j (hj : j < l.length), j < k + 1 → isB p q o l[j] = true) := Lib.hid (fun j hj hjk => by
          rcases Nat.lt_or_ge j k with h1 | h1
          · exact hall.out j hj h1
          · obtain rfl : j = k := by omega
            rw [hb]; exact hB)
        clear key hB hall
        go_wp2_with (fail)
        refine (hi _).mono ?_
        rintro e w' ⟨rfl, rfl⟩
        go_wp2
        go_round
        case rel => exact ⟨k + 1, by go_num, by omega, Hall⟩
        case measure => simp [intOf]; omega
    · have Hk := key (fun h => absurd h hlt)
      clear key hall
      go_wp2
      go_ret
      exact ⟨ret_int (by rw [Hk.out.1]), by rw [Hk.out.2.1]; exact hfin.out⟩
end Go.Proofs.YtkmidilaabgooaaDoor
