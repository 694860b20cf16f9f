/-
  strings.IndexAny at the bytes that end a line, in any text. (After l04's Ci, Cj.)
-/
import Derived.Test.YtokojeiiobhciaaDoorFo
import Derived.Test.YtokojeiiobhciaaDoorCalm
import Derived.Laws.RangeAny
import Derived.Laws.Strings3
import Derived.WalkMore
namespace Go.Proofs.YtokojeiiobhciaaDoor
open Go.RowKit Mem
set_option linter.unusedVariables false
set_option linter.unusedSimpArgs false

theorem ret_int {k : IntKind} {a b : Int} (h : a = b) : Ending.returned (.int k a) = .returned (.int k b) := by rw [h]
theorem sv_list (l : Bs) : (sv l).data.toList = l := rfl
theorem decode_low (s : ByteArray) (i : Nat) (h : (s.get! i).toNat < 128) : Utf8.decode s i = ((s.get! i).toNat, 1) := by
  unfold Utf8.decode
  simp only [Nat.add_zero]
  rw [if_pos h]
theorem decode_high (s : ByteArray) (i : Nat) (h : ¬ (s.get! i).toNat < 128) : 128 ≤ (Utf8.decode s i).1 := by
  unfold Utf8.decode
  simp only [Nat.add_zero]
  rw [if_neg h]
  repeat' split
  all_goals first | (simp only [Bool.and_eq_true, decide_eq_true_eq, ge_iff_le] at *; omega) | (show 128 ≤ Utf8.runeError; decide) | skip
theorem has_idx (c : UInt8) : ∀ o : Bs, -1 ≤ Lib.indexByte o c ∧ decide (0 ≤ Lib.indexByte o c) = o.contains c
  | [] => by simp [Lib.indexByte]
  | x :: o => by
    have ih := has_idx c o
    unfold Lib.indexByte
    by_cases hx : (x == c) = true
    · rw [if_pos hx]
      simp at hx
      simp [hx]
    · have hx' : (c == x) = false := by
        rw [beq_eq_false_iff_ne]; rintro rfl; simp at hx
      rw [if_neg hx, List.contains_cons, hx', Bool.false_or, ← ih.2]
      by_cases h1 : Lib.indexByte o c = -1
      · rw [h1]; simp
      · have h2 : ¬ (Lib.indexByte o c == -1) = true := by simpa using h1
        rw [if_neg h2]
        refine ⟨by omega, ?_⟩
        rw [decide_eq_decide]
        omega
theorem idx_any (o : Bs) (c : UInt8) (w : World) : Calls Tryd.prog 20 #[.string (sv o), .int .u8 (c.toNat : Int)] w fun e w' => e = .returned (.int .i64 (Lib.indexByte o c)) ∧ w' = w := by
  have := Tryd.strings_IndexByte (sv o) (c.toNat : Int) w
  rw [sv_list, Int.toNat_natCast, Nat.toUInt8_eq, UInt8.ofNat_toNat] at this
  exact this
theorem tw_at (p : UInt8 → Bool) : ∀ (l : Bs) (k : Nat), k ≤ l.length → (∀ j (hj : j < l.length), j < k → p l[j] = true) → (∀ h : k < l.length, p l[k] = false) → (l.takeWhile p).length = k ∧ l.dropWhile p = l.drop k ∧ l.takeWhile p = l.take k
  | [], k, hk, _, _ => by
    have : k = 0 := by simpa using hk
    subst this; exact ⟨rfl, rfl, rfl⟩
  | b :: l, 0, _, _, h => by
    have hb : p b = false := h (Nat.succ_pos _)
    simp [List.takeWhile_cons, List.dropWhile_cons, hb]
  | b :: l, k + 1, hk, ha, h => by
    have hb : p b = true := ha 0 (Nat.succ_pos _) (Nat.succ_pos _)
    have ih := tw_at p l k (by simpa using hk) (fun j hj hjk => ha (j + 1) (by simpa using hj) (by omega)) (fun h1 => h (by simpa using h1))
    simp [List.takeWhile_cons, List.dropWhile_cons, hb, ih]
    exact Nat.min_eq_left (by simpa using hk)
def badV (c : UInt8) : Bool := c == 13 || c == 10
abbrev bads : Bs := [13, 10]
theorem bads_low : ∀ b ∈ bads, b.toNat < 128 := by decide
theorem far_idx (x : UInt8) (hx : 128 ≤ x.toNat) (o : Bs) (ho : ∀ b ∈ o, b.toNat < 128) : Lib.indexByte o x = -1 := by
  obtain ⟨h1, h2⟩ := has_idx x o
  have : o.contains x = false := by
    cases hc : o.contains x with
    | false => rfl
    | true =>
      have := ho x (by simpa using hc)
      omega
  rw [this, decide_eq_false_iff_not] at h2
  omega
theorem enc_last (r : Int) (h : 128 ≤ r) (hv : Lib.validRune r = true) : ∃ (n : Nat) (x : UInt8), (n = 1 ∨ n = 2 ∨ n = 3) ∧ (Utf8.encode r).size = n + 1 ∧ (∀ h, (Utf8.encode r)[n]'h = x) ∧ 128 ≤ x.toNat := by
  have hv' : Utf8.valid r = true := by
    unfold Lib.validRune at hv
    unfold Utf8.valid
    simp at hv ⊢
    omega
  have hlt : ∀ m, (UInt8.ofNat (128 + m % 64)).toNat = 128 + m % 64 := fun m => by
    have : m % 64 < 64 := Nat.mod_lt _ (by decide)
    simp [UInt8.toNat_ofNat']
    omega
  unfold Utf8.encode
  rw [if_pos hv']
  dsimp only
  rw [if_neg (by omega)]
  split
  · exact ⟨1, UInt8.ofNat (128 + r.toNat % 64), .inl rfl, rfl, fun _ => rfl, by rw [hlt]; omega⟩
  · split
    · exact ⟨2, UInt8.ofNat (128 + r.toNat % 64), .inr (.inl rfl), rfl, fun _ => rfl, by rw [hlt]; omega⟩
    · exact ⟨3, UInt8.ofNat (128 + r.toNat % 64), .inr (.inr rfl), rfl, fun _ => rfl, by rw [hlt]; omega⟩
theorem mod_iter (w : World) (s : ByteArray) (i : Nat) : Mod (fun _ => False) w (w.iter s i) := (Mod.refl _ _).alloc _

set_option maxRecDepth 1000000 in
set_option maxHeartbeats 2000000 in
theorem rune_far (r : Int) (h : 128 ≤ r) (w : World) : Calls Tryd.prog 27 #[.string (sv bads), .int .i32 r] w fun e w' => e = .returned (.int .i64 (-1)) ∧ Mod (fun _ => False) w w' := by
  have hsz : (sv bads).size = 2 := rfl
  have h0 : (0 : Int) ≤ r := by omega
  by_cases he : r = 65533
  · subst he
    go_enter Tryd.func27, Tryd.ntmps27
    go_wp2
    go_loopg [5, 6] 2 (fun g _ _ wx => ∃ i : Nat, i + g = 2 ∧ wx = w.iter (sv bads) i)
    case atStart => exact ⟨0, by omega, rfl⟩
    case round =>
      obtain ⟨i, hig, rfl⟩ := hrel
      cases gk with
      | zero =>
        obtain rfl : i = 2 := by omega
        have hnx := fun ty => run_next_end (P := Tryd.prog) w (sv bads) 2 ty (by rw [hsz]; omega)
        go_wp2
        go_ret
        exact ⟨rfl, mod_iter _ _ _⟩
      | succ g =>
        have hi : i < (sv bads).size := by rw [hsz]; omega
        have hi' : i < bads.length := hi
        obtain ⟨x, hx⟩ : ∃ x : UInt8, (sv bads)[i]'hi = x := ⟨_, rfl⟩
        have hx128 : x.toNat < 128 := by rw [← hx]; exact bads_low _ (List.getElem_mem hi')
        have hnx := fun ty => run_next_ascii (P := Tryd.prog) w (sv bads) i ty hi (by rw [hx]; exact hx128)
        rw [hx] at hnx
        have hne : ((x.toNat : Int) == 65533) = false := beq_eq_false_iff_ne.2 (by omega)
        clear hx hi'
        go_wp2
        go_roundg g
        case measure => omega
        case rel => exact ⟨i + 1, by omega, rfl⟩
  · have hne : (r == 65533) = false := beq_eq_false_iff_ne.2 he
    have hnlt : ¬ r < 128 := by omega
    rcases hv : Lib.validRune r with _ | _
    · have hvr := fun w => Tryd.utf8_ValidRune r w
      rw [hv] at hvr
      clear hv he
      go_enter Tryd.func27, Tryd.ntmps27
      go_wp2_with (fail)
      refine (hvr _).mono ?_
      rintro e w' ⟨rfl, rfl⟩
      go_wp2
      go_ret
      exact ⟨rfl, Mod.refl _ _⟩
    · have hvr := fun w => Tryd.utf8_ValidRune r w
      rw [hv] at hvr
      obtain ⟨n, x, hn, e1, e2, hx⟩ := enc_last r h hv
      obtain ⟨R, hR⟩ : ∃ R, Utf8.encode r = R := ⟨_, rfl⟩
      rw [hR] at e1
      have e2' : ∀ h, R[n]'h = x := by subst hR; exact e2
      clear hv he e2
      have hlast : ((R.size : Nat) : Int) - 1 = (n : Int) := by omega
      rcases (show 2 ≤ n ∨ n = 1 by omega) with hn1 | hn1
      · have hcv : ∀ w : World, (convert 21 9 (.int .i32 r)).run Tryd.prog w = .ok (.string R) w := fun w => by
          rw [run_convert_int_string w 21 9 .i32 r (by rw [Tryd.underlying21]; rfl) Tryd.underlying9, hR]
        have hn0 : (0 : Int) ≤ (n : Int) := by omega
        have hq1 : ¬ (n : Int) < 2 := by omega
        have hq9 : (n : Int) < 4 := by omega
        have hsz' : ((sv bads).size : Int) = 2 := by rw [hsz]; rfl
        clear hx hn hR hn1
        go_enter Tryd.func27, Tryd.ntmps27
        go_wp2_with (fail)
        refine (hvr _).mono ?_
        rintro e w' ⟨rfl, rfl⟩
        go_wp2
        go_step3
        go_wp2
        go_loop [9] (fun i => i = .int .i64 n) (fun _ => 0)
        case atStart => go_num
        case round =>
          subst hrel
          go_wp2_with (fail)
          go_ret
          exact ⟨rfl, Mod.refl _ _⟩
      · have hn1' := hn1
        have hb : ∀ (k : Nat) (hk : k < (sv bads).size), (sv bads)[k].toNat < 128 := fun k hk => bads_low _ (List.getElem_mem (l := bads) hk)
        go_enter Tryd.func27, Tryd.ntmps27
        go_wp2_with (fail)
        refine (hvr _).mono ?_
        rintro e w' ⟨rfl, rfl⟩
        have hcv : ∀ w : World, (convert 21 9 (.int .i32 r)).run Tryd.prog w = .ok (.string R) w := fun w => by
          rw [run_convert_int_string w 21 9 .i32 r (by rw [Tryd.underlying21]; rfl) Tryd.underlying9, hR]
        have hie : ∀ w, Calls Tryd.prog 20 #[.string (sv (bads.drop (n + 1))), .int .u8 (x.toNat : Int)] w fun e w' => e = .returned (.int .i64 (-1)) ∧ w' = w := fun w => by
          have := idx_any (bads.drop (n + 1)) x w
          rw [far_idx x hx _ (fun b hb => bads_low b (List.mem_of_mem_drop hb))] at this
          exact this
        have hxt : ((sv bads).extract (n + 1) 2) = sv (bads.drop (n + 1)) := by rw [sv_ext]; rfl
        have hbn : ∀ h, (((sv bads)[n]'h).toNat : Int) < 128 := fun h => by have := hb n h; omega
        have hx' : (128 : Int) ≤ (x.toNat : Int) := by omega
        have hn9 : n < (sv bads).size := by rw [hsz]; omega
        obtain ⟨y, hy⟩ : ∃ y, (sv bads)[n]'hn9 = y := ⟨_, rfl⟩
        have hy' : ∀ h, (sv bads)[n]'h = y := fun _ => hy
        have hne2 : ((y.toNat : Int) == (x.toNat : Int)) = false := beq_eq_false_iff_ne.2 (by have := hbn hn9; rw [hy] at this; omega)
        have hq1 : (n : Int) < 2 := by omega
        have hq2 : (n : Int) + 1 ≤ 2 := by omega
        have hq3 : (0 : Int) ≤ (n : Int) + 1 := by omega
        have hq4 : ((n : Int) + 1).toNat = n + 1 := by omega
        have hq5 : (n : Int) < (R.size : Int) := by omega
        have hsz' : ((sv bads).size : Int) = 2 := by rw [hsz]; rfl
        have hn0 : (0 : Int) ≤ (n : Int) := by omega
        clear hy hbn hb hx hn hR hn9 hn1 hn1'
        go_wp2
        go_step3
        go_wp2
        go_loop [9] (fun i => i = .int .i64 n) (fun _ => 0)
        case atStart => go_num
        case round =>
          subst hrel
          go_wp2_with (fail)
          go_step3
          go_wp2_with (fail)
          refine region_calm (by kernel_rfl) (by kernel_rfl) ?_
          repeat (go_big_quiet_step (fail))
          refine calm_end (fun w6 hm6 => ?_)
          have Hm6 := Lib.hid hm6
          clear hm6
          go_wp2_with (fail)
          refine region_calm (by kernel_rfl) (by kernel_rfl) ?_
          repeat (go_big_quiet_step (first | (go_at_call 20; exact calm_eq' (hie _))))
          refine calm_end (fun w7 hm7 => ?_)
          have Hm7 := Lib.hid (Hm6.out.trans hm7 (fun _ h => h.elim))
          clear hm7
          go_wp2
          rw [Exit.noGoto_ret]
          go_wp2
          rw [Exit.noGoto_ret]
          go_ret
          exact ⟨rfl, Hm7.out⟩
def setIter (w : World) (k : Nat) (s : ByteArray) (p : Nat) : World := { w with heap := w.heap.setIfInBounds k (.stringIter s p) }
theorem next_at {P : Program} (w : World) (k : Nat) (s : ByteArray) (pos : Nat) (ty : TypeId) (hk : w.heap[k]? = some (.stringIter s pos)) (h : pos < s.size) :
    (Instr.next (.pointer (some ⟨k, 0, none⟩)) true ty).run P w = .ok (.tuple #[.bool true, .int .i64 pos, .int .i32 (Utf8.decode s pos).1]) (setIter w k s (pos + (Utf8.decode s pos).2)) := by
  simp only [Instr.next, getObj, setObj, Sem.run_bind, Sem.run, hk, Result.andThen, h, if_true]
  simp [goInt, setIter]
theorem next_end {P : Program} (w : World) (k : Nat) (s : ByteArray) (pos : Nat) (ty : TypeId) (hk : w.heap[k]? = some (.stringIter s pos)) (h : ¬ pos < s.size) :
    (Instr.next (.pointer (some ⟨k, 0, none⟩)) true ty).run P w = .ok (.tuple #[.bool false]) w := by
  simp [Instr.next, getObj, Sem.run, hk, h]
theorem setIter_at {w : World} {k : Nat} (s : ByteArray) (p : Nat) (hk : k < w.heap.size) : (setIter w k s p).heap[k]? = some (.stringIter s p) := by
  unfold setIter
  show (w.heap.setIfInBounds k _)[k]? = _
  rw [Array.getElem?_setIfInBounds_self_of_lt hk]
theorem setIter_mod {w w' : World} {k : Nat} (s : ByteArray) (p : Nat) (h : Mod (fun _ => False) w w') (hk : w.heap.size ≤ k) : Mod (fun _ => False) w (setIter w' k s p) := by
  refine ⟨h.os, h.tape, h.output, ?_, fun j hj hn => ?_⟩
  · show w.heap.size ≤ (w'.heap.setIfInBounds k _).size
    rw [Array.size_setIfInBounds]; exact h.size
  · show (w'.heap.setIfInBounds k _)[j]? = _
    rw [Array.getElem?_setIfInBounds_ne (by omega)]
    exact h.block j hj hn
/-- Bytes of a rune that is no byte of ASCII. -/
theorem dec_span (s : ByteArray) (i : Nat) (h : i < s.size) (hi : 128 ≤ (s.get! i).toNat) :
    1 ≤ (Utf8.decode s i).2 ∧ i + (Utf8.decode s i).2 ≤ s.size ∧ ∀ k, k < (Utf8.decode s i).2 → 128 ≤ (s.get! (i + k)).toNat := by
  have c : ∀ k, (decide (i + k < s.size) && ((s.get! (i + k)).toNat / 64 == 2)) = true → i + k < s.size ∧ 128 ≤ (s.get! (i + k)).toNat := fun k hk => by
    rw [Bool.and_eq_true, decide_eq_true_eq, beq_iff_eq] at hk
    exact ⟨hk.1, by omega⟩
  have h0 : 128 ≤ (s.get! (i + 0)).toNat := hi
  have one : (1 ≤ 1) ∧ i + 1 ≤ s.size ∧ ∀ k, k < 1 → 128 ≤ (s.get! (i + k)).toNat := ⟨Nat.le_refl _, by omega, fun k hk => by
    have e : k = 0 := by omega
    rw [e]; exact h0⟩
  unfold Utf8.decode
  dsimp only
  rw [if_neg (show ¬ (s.get! (i + 0)).toNat < 128 by omega)]
  split
  · rename_i h1
    rw [Bool.and_eq_true] at h1
    obtain ⟨_, h1⟩ := h1
    have c1 := c 1 h1
    split
    · refine ⟨by show 1 ≤ 2; decide, by omega, fun k hk => ?_⟩
      have : k = 0 ∨ k = 1 := by have : k < 2 := hk; omega
      rcases this with rfl | rfl
      · exact h0
      · exact c1.2
    · exact one
  · split
    · rename_i h1
      rw [Bool.and_eq_true, Bool.and_eq_true] at h1
      obtain ⟨⟨_, h1⟩, h2⟩ := h1
      have c1 := c 1 h1
      have c2 := c 2 h2
      split
      · refine ⟨by show 1 ≤ 3; decide, by omega, fun k hk => ?_⟩
        have : k = 0 ∨ k = 1 ∨ k = 2 := by have : k < 3 := hk; omega
        rcases this with rfl | rfl | rfl
        · exact h0
        · exact c1.2
        · exact c2.2
      · exact one
    · split
      · rename_i h1
        rw [Bool.and_eq_true, Bool.and_eq_true, Bool.and_eq_true] at h1
        obtain ⟨⟨⟨_, h1⟩, h2⟩, h3⟩ := h1
        have c1 := c 1 h1
        have c2 := c 2 h2
        have c3 := c 3 h3
        split
        · refine ⟨by show 1 ≤ 4; decide, by omega, fun k hk => ?_⟩
          have : k = 0 ∨ k = 1 ∨ k = 2 ∨ k = 3 := by have : k < 4 := hk; omega
          rcases this with rfl | rfl | rfl | rfl
          · exact h0
          · exact c1.2
          · exact c2.2
          · exact c3.2
        · exact one
      · exact one
theorem get_sv (l : Bs) (i : Nat) (h : i < l.length) : (sv l).get! i = l[i] := by
  show (sv l).data[i]! = _
  rw [getElem!_pos _ _ (by exact h)]
  rfl
/-- Where the first of them stands. -/
def iaV (l : Bs) : Int := if l.all (fun x => !badV x) then -1 else ((l.takeWhile (fun x => !badV x)).length : Nat)
theorem bads_eq (c : UInt8) : badV c = bads.contains c := by
  have : bads.contains c = [13, 10].contains c := rfl
  rw [this]
  simp [badV]
  rfl
theorem ia_eq : ∀ l : Bs, Lib.indexAny l bads = iaV l
  | [] => rfl
  | b :: l => by
    have ih := ia_eq l
    unfold Lib.indexAny iaV
    rw [← bads_eq, List.all_cons, List.takeWhile_cons]
    cases hb : badV b with
    | true => simp
    | false =>
      rw [ih]
      unfold iaV
      cases ha : l.all (fun x => !badV x) with
      | true => simp
      | false =>
        have : ¬ ((((l.takeWhile (fun x => !badV x)).length : Nat) : Int) == -1) = true := by simp
        simp only [Bool.not_false, Bool.true_and, Bool.false_eq_true, if_false, if_true]
        rw [if_neg this]
        simp
theorem bads_low' {c : UInt8} (h : 128 ≤ c.toNat) : badV c = false := by
  rw [bads_eq]
  cases hc : bads.contains c with
  | false => rfl
  | true => have := bads_low c (by simpa using hc); omega

structure Itr (w wr : World) (s : ByteArray) (i : Nat) : Prop where
  b : wr.heap[w.heap.size]? = some (.stringIter s i)
  m : Mod (fun _ => False) w wr
theorem Itr.start (w : World) (s : ByteArray) : Itr w (w.iter s 0) s 0 := ⟨World.iter_heap w s 0, mod_iter _ _ _⟩
theorem Itr.next {w wr : World} {s : ByteArray} {i : Nat} (h : Itr w wr s i) (j : Nat) : Itr w (setIter wr w.heap.size s j) s j :=
  ⟨setIter_at s j (Array.getElem?_eq_some_iff.1 h.b).1, setIter_mod s j h.m (Nat.le_refl _)⟩
theorem Itr.mod {w wr wr' : World} {s : ByteArray} {i : Nat} (h : Itr w wr s i) (hm : Mod (fun _ => False) wr wr') : Itr w wr' s i :=
  ⟨(hm.block _ (Array.getElem?_eq_some_iff.1 h.b).1 (fun h => h)).trans h.b, h.m.trans hm (fun _ h => h.elim)⟩

set_option maxRecDepth 1000000 in
set_option maxHeartbeats 2000000 in
theorem ia_short (l : Bs) (h8 : l.length ≤ 8) (w : World) : Calls Tryd.prog 16 #[.string (sv l), .string (sv bads)] w fun e w' => e = .returned (.int .i64 (iaV l)) ∧ Mod (fun _ => False) w w' := by
  have hsz := sv_size l
  have hbs : (sv bads).toList = bads := sv_toList _
  have hbz : ((sv bads).size : Int) = 2 := rfl
  have hsa := fun w => Tryd.strings_shouldUseASCIISet (l.length : Int) w
  have h8z : decide ((8 : Int) < (l.length : Int)) = false := decide_eq_false (by omega)
  rw [h8z] at hsa
  have Hs := Lib.hid (Itr.start w (sv l))
  go_enter Tryd.func16, Tryd.ntmps16
  go_wp2_with (fail)
  refine (hsa _).mono ?_
  rintro e w' ⟨rfl, rfl⟩
  go_wp2
  go_loopg [9, 10] l.length (fun g _ _ wx => ∃ i : Nat, i + g = l.length ∧ Hid (Itr w' wx (sv l) i) ∧ Hid (∀ j (hj : j < l.length), j < i → badV l[j] = false))
  case atStart => exact ⟨0, by omega, Hs, Lib.hid (fun j hj h => by omega)⟩
  case round =>
    obtain ⟨i, hig, hI, hall⟩ := hrel
    cases gk with
    | zero =>
      obtain rfl : i = l.length := by omega
      have hnx := fun ty => next_end (P := Tryd.prog) _ _ _ _ ty hI.out.b (by rw [hsz]; omega)
      have hr : Hid (iaV l = -1) := Lib.hid (by
        unfold iaV
        rw [if_pos]
        rw [List.all_eq_true]
        intro x hx
        obtain ⟨j, hj, rfl⟩ := List.getElem_of_mem hx
        exact congrArg not (hall.out j hj hj))
      clear hall
      go_wp2
      go_ret
      exact ⟨ret_int hr.out.symm, hI.out.m⟩
    | succ g =>
      have hi : i < l.length := by omega
      have hi' : i < (sv l).size := by rw [hsz]; exact hi
      have hnx := fun ty => next_at (P := Tryd.prog) _ _ _ _ ty hI.out.b hi'
      obtain ⟨d, hd⟩ : ∃ d, (Utf8.decode (sv l) i).1 = d := ⟨_, rfl⟩
      obtain ⟨k, hk⟩ : ∃ k, (Utf8.decode (sv l) i).2 = k := ⟨_, rfl⟩
      rw [hd, hk] at hnx
      have hN := Lib.hid (hI.out.next (i + k))
      by_cases hlow : ((sv l).get! i).toNat < 128
      · have hdec := decode_low (sv l) i hlow
        obtain ⟨x, hx⟩ : ∃ x, l[i] = x := ⟨_, rfl⟩
        have hgx : (sv l).get! i = x := by rw [← hx]; exact get_sv l i hi
        rw [hdec, hgx] at hd
        rw [hdec] at hk
        rw [hgx] at hlow
        have hd' : x.toNat = d := hd
        have hk' : 1 = k := hk
        have hir := fun w => Tryd.strings_IndexRune_ascii (sv bads) (x.toNat : Int) w (by omega) (by omega)
        rw [sv_list, Int.toNat_natCast, Nat.toUInt8_eq, UInt8.ofNat_toNat] at hir
        obtain ⟨h1, h2⟩ := has_idx x bads
        rw [← bads_eq] at h2
        obtain ⟨m, hm⟩ : ∃ m, Lib.indexByte bads x = m := ⟨_, rfl⟩
        rw [hm] at hir h1 h2
        rcases hB : badV x with _ | _
        · rw [hB, decide_eq_false_iff_not] at h2
          have hm1 : ¬ (0 : Int) ≤ m := h2
          have Hall : Hid (∀ j (hj : j < l.length), j < i + 1 → badV l[j] = false) := Lib.hid (fun j hj hjk => by
            rcases Nat.lt_or_ge j i with h1 | h1
            · exact hall.out j hj h1
            · obtain rfl : j = i := by omega
              exact (congrArg badV hx).trans hB)
          subst hd' hk'
          clear hB h2 hm hx hdec hall hd hk hi' hlow
          go_wp2_with (fail)
          refine (hir _).mono ?_
          rintro e w2 ⟨rfl, rfl⟩
          go_wp2
          go_roundg g
          case measure => omega
          case rel => exact ⟨i + 1, by omega, hN, Hall⟩
        · rw [hB, decide_eq_true_iff] at h2
          have hr : Hid (iaV l = (i : Int)) := Lib.hid (by
            unfold iaV
            obtain ⟨e1, e2, e3⟩ := tw_at (fun x => !badV x) l i (by omega) (fun j hj hjk => congrArg not (hall.out j hj hjk)) (fun _ => congrArg not ((congrArg badV hx).trans hB))
            have : l.all (fun x => !badV x) = false := by
              rw [List.all_eq_false]
              exact ⟨l[i], List.getElem_mem hi, fun h => by rw [congrArg not ((congrArg badV hx).trans hB)] at h; cases h⟩
            rw [this, e1]
            rfl)
          subst hd' hk'
          clear hB hm hx hdec hall hd hk hi' hlow
          go_wp2_with (fail)
          refine (hir _).mono ?_
          rintro e w2 ⟨rfl, rfl⟩
          go_wp2
          go_ret
          exact ⟨ret_int hr.out.symm, hN.out.m⟩
      · have hb2 : 128 ≤ ((sv l).get! i).toNat := by omega
        have hdec := decode_high (sv l) i hlow
        obtain ⟨s1, s2, s3⟩ := dec_span (sv l) i hi' hb2
        rw [hd] at hdec
        rw [hk] at s1 s2 s3
        rw [hsz] at s2
        have Hall : Hid (∀ j (hj : j < l.length), j < i + k → badV l[j] = false) := Lib.hid (fun j hj hjk => by
          rcases Nat.lt_or_ge j i with h1 | h1
          · exact hall.out j hj h1
          · have h2 := s3 (j - i) (by omega)
            rw [show i + (j - i) = j by omega] at h2
            exact bads_low' (by rw [← get_sv l j hj]; exact h2))
        have hd0 : (128 : Int) ≤ (d : Int) := by omega
        have hir := fun w => rune_far (d : Int) hd0 w
        clear s3 hdec hb2 hlow hall hd hk hi'
        go_wp2_with (fail)
        refine (hir _).mono ?_
        rintro e w2 ⟨rfl, hm2⟩
        have HN := Lib.hid (hN.out.mod hm2)
        clear hm2
        go_wp2
        go_roundg (l.length - (i + k))
        case measure => omega
        case rel => exact ⟨i + k, by omega, HN, Hall⟩
/-- In any text. -/
theorem ia_any (l : Bs) (hl : l.length ≤ 4294967280) (w : World) : Calls Tryd.prog 16 #[.string (sv l), .string (sv bads)] w fun e w' => e = .returned (.int .i64 (iaV l)) ∧ Mod (fun _ => False) w w' := by
  by_cases h8 : l.length ≤ 8
  · exact ia_short l h8 w
  · have h := Tryd.strings_IndexAny_long (zero_of_info (n := 256) (by kernel_rfl)).1 (sv l) (sv bads) w (by decide) (by rw [sv_size]; omega) (by rw [sv_size]; omega) (by decide) (fun j b hb => bads_low b (List.mem_of_getElem? hb))
    rw [sv_list, sv_list, ia_eq] at h
    exact h.mono fun e w' ⟨h1, h2⟩ => ⟨h1, by rw [h2]; exact ((Mod.refl _ _).alloc _).alloc _⟩
end Go.Proofs.YtokojeiiobhciaaDoor
