/-
  strings.IndexAny at the bytes that end a value, in any text.
-/
import Derived.Test.YtkmidilaabgooaaDoorCi
namespace Go.Proofs.YtkmidilaabgooaaDoor
open Go.RowKit Mem
set_option linter.unusedVariables false
set_option linter.unusedSimpArgs false

def setIter (w : World) (k : Nat) (s : ByteArray) (p : Nat) : World := { w with heap := w.heap.setIfInBounds k (.stringIter s p) }
theorem next_at {P : Program} (w : World) (k : Nat) (s : ByteArray) (pos : Nat) (ty : TypeId) (hk : w.heap[k]? = some (.stringIter s pos)) (h : pos < s.size) :
    (Instr.next (.pointer (some ⟨k, 0, none⟩)) true ty).run P w = .ok (.tuple #[.bool true, .int .i64 pos, .int .i32 (Utf8.decode s pos).1]) (setIter w k s (pos + (Utf8.decode s pos).2)) := by
  simp only [Instr.next, getObj, setObj, Sem.run_bind, Sem.run, hk, Result.andThen, h, if_true]
  simp [goInt, setIter]
theorem next_end {P : Program} (w : World) (k : Nat) (s : ByteArray) (pos : Nat) (ty : TypeId) (hk : w.heap[k]? = some (.stringIter s pos)) (h : ¬ pos < s.size) :
    (Instr.next (.pointer (some ⟨k, 0, none⟩)) true ty).run P w = .ok (.tuple #[.bool false]) w := by
  simp [Instr.next, getObj, Sem.run, hk, h]
theorem setIter_at {w : World} {k : Nat} (s : ByteArray) (p : Nat) (hk : k < w.heap.size) : (setIter w k s p).heap[k]? = some (.stringIter s p) := by
  unfold setIter
  show (w.heap.setIfInBounds k _)[k]? = _
  rw [Array.getElem?_setIfInBounds_self_of_lt hk]
theorem setIter_mod {w w' : World} {k : Nat} (s : ByteArray) (p : Nat) (h : Mod (fun _ => False) w w') (hk : w.heap.size ≤ k) : Mod (fun _ => False) w (setIter w' k s p) := by
  refine ⟨h.os, h.tape, h.output, ?_, fun j hj hn => ?_⟩
  · show w.heap.size ≤ (w'.heap.setIfInBounds k _).size
    rw [Array.size_setIfInBounds]; exact h.size
  · show (w'.heap.setIfInBounds k _)[j]? = _
    rw [Array.getElem?_setIfInBounds_ne (by omega)]
    exact h.block j hj hn
/-- Bytes of a rune that is no byte of ASCII. -/
theorem dec_span (s : ByteArray) (i : Nat) (h : i < s.size) (hi : 128 ≤ (s.get! i).toNat) :
    1 ≤ (Utf8.decode s i).2 ∧ i + (Utf8.decode s i).2 ≤ s.size ∧ ∀ k, k < (Utf8.decode s i).2 → 128 ≤ (s.get! (i + k)).toNat := by
  have c : ∀ k, (decide (i + k < s.size) && ((s.get! (i + k)).toNat / 64 == 2)) = true → i + k < s.size ∧ 128 ≤ (s.get! (i + k)).toNat := fun k hk => by
    rw [Bool.and_eq_true, decide_eq_true_eq, beq_iff_eq] at hk
    exact ⟨hk.1, by omega⟩
  have h0 : 128 ≤ (s.get! (i + 0)).toNat := hi
  have one : (1 ≤ 1) ∧ i + 1 ≤ s.size ∧ ∀ k, k < 1 → 128 ≤ (s.get! (i + k)).toNat := ⟨Nat.le_refl _, by omega, fun k hk => by
    have e : k = 0 := by omega
    rw [e]; exact h0⟩
  unfold Utf8.decode
  dsimp only
  rw [if_neg (show ¬ (s.get! (i + 0)).toNat < 128 by omega)]
  split
  · rename_i h1
    rw [Bool.and_eq_true] at h1
    obtain ⟨_, h1⟩ := h1
    have c1 := c 1 h1
    split
    · refine ⟨by show 1 ≤ 2; decide, by omega, fun k hk => ?_⟩
      have : k = 0 ∨ k = 1 := by have : k < 2 := hk; omega
      rcases this with rfl | rfl
      · exact h0
      · exact c1.2
    · exact one
  · split
    · rename_i h1
      rw [Bool.and_eq_true, Bool.and_eq_true] at h1
      obtain ⟨⟨_, h1⟩, h2⟩ := h1
      have c1 := c 1 h1
      have c2 := c 2 h2
      split
      · refine ⟨by show 1 ≤ 3; decide, by omega, fun k hk => ?_⟩
        have : k = 0 ∨ k = 1 ∨ k = 2 := by have : k < 3 := hk; omega
        rcases this with rfl | rfl | rfl
        · exact h0
        · exact c1.2
        · exact c2.2
      · exact one
    · split
      · rename_i h1
        rw [Bool.and_eq_true, Bool.and_eq_true, Bool.and_eq_true] at h1
        obtain ⟨⟨⟨_, h1⟩, h2⟩, h3⟩ := h1
        have c1 := c 1 h1
        have c2 := c 2 h2
        have c3 := c 3 h3
        split
        · refine ⟨by show 1 ≤ 4; decide, by omega, fun k hk => ?_⟩
          have : k = 0 ∨ k = 1 ∨ k = 2 ∨ k = 3 := by have : k < 4 := hk; omega
          rcases this with rfl | rfl | rfl | rfl
          · exact h0
          · exact c1.2
          · exact c2.2
          · exact c3.2
        · exact one
      · exact one
theorem get_sv (l : Bs) (i : Nat) (h : i < l.length) : (sv l).get! i = l[i] := by
  show (sv l).data[i]! = _
  rw [getElem!_pos _ _ (by exact h)]
  rfl
/-- Where the first of them stands. -/
def iaV (l : Bs) : Int := if l.all (fun x => !badV x) then -1 else ((l.takeWhile (fun x => !badV x)).length : Nat)
theorem bads_eq (c : UInt8) : badV c = bads.contains c := by
  have : bads.contains c = [9, 10, 32, 34, 39, 61, 60, 62, 96].contains c := rfl
  unfold badV isB
  simp
theorem ia_eq : ∀ l : Bs, Lib.indexAny l bads = iaV l
  | [] => rfl
  | b :: l => by
    have ih := ia_eq l
    unfold Lib.indexAny iaV
    rw [← bads_eq, List.all_cons, List.takeWhile_cons]
    cases hb : badV b with
    | true => simp
    | false =>
      rw [ih]
      unfold iaV
      cases ha : l.all (fun x => !badV x) with
      | true => simp
      | false =>
        have : ¬ ((((l.takeWhile (fun x => !badV x)).length : Nat) : Int) == -1) = true := by simp
        simp only [Bool.not_false, Bool.true_and, Bool.false_eq_true, if_false, if_true]
        rw [if_neg this]
        simp
theorem bads_low' {c : UInt8} (h : 128 ≤ c.toNat) : badV c = false := by
  rw [bads_eq]
  cases hc : bads.contains c with
  | false => rfl
  | true => have := bads_low c (by simpa using hc); omega

structure Itr (w wr : World) (s : ByteArray) (i : Nat) : Prop where
  b : wr.heap[w.heap.size]? = some (.stringIter s i)
  m : Mod (fun _ => False) w wr
theorem Itr.start (w : World) (s : ByteArray) : Itr w (w.iter s 0) s 0 := ⟨World.iter_heap w s 0, mod_iter _ _ _⟩
theorem Itr.next {w wr : World} {s : ByteArray} {i : Nat} (h : Itr w wr s i) (j : Nat) : Itr w (setIter wr w.heap.size s j) s j :=
  ⟨setIter_at s j (Array.getElem?_eq_some_iff.1 h.b).1, setIter_mod s j h.m (Nat.le_refl _)⟩
theorem Itr.mod {w wr wr' : World} {s : ByteArray} {i : Nat} (h : Itr w wr s i) (hm : Mod (fun _ => False) wr wr') : Itr w wr' s i :=
  ⟨(hm.block _ (Array.getElem?_eq_some_iff.1 h.b).1 (fun h => h)).trans h.b, h.m.trans hm (fun _ h => h.elim)⟩

set_option maxRecDepth 1000000 in
set_option maxHeartbeats 2000000 in
theorem ia_short (l : Bs) (h8 : l.length ≤ 8) (w : World) : Calls Tryd.prog 62 #[.string (sv l), .string (sv bads)] w fun e w' => e = .returned (.int .i64 (iaV l)) ∧ Mod (fun _ => False) w w' := by
  have hsz := sv_size l
  have hbs : (sv bads).toList = bads := sv_toList _
  have hbz : ((sv bads).size : Int) = 9 := rfl
  have hsa := fun w => Tryd.strings_shouldUseASCIISet (l.length : Int) w
  have h8z : decide ((8 : Int) < (l.length : Int)) = false := decide_eq_false (by omega)
  rw [h8z] at hsa
  have Hs := Lib.hid (Itr.start w (sv l))
  go_enter Tryd.func62, Tryd.ntmps62
  go_wp2_with (fail)
  refine (hsa _).mono ?_
  rintro e w' ⟨rfl, rfl⟩
  go_wp2
  go_loopg [9, 10] l.length (fun g _ _ wx => ∃ i : Nat, i + g = l.length ∧ Hid (Itr w' wx (sv l) i) ∧ Hid (∀ j (hj : j < l.length), j < i → badV l[j] = false))
  case atStart => exact ⟨0, by omega, Hs, Lib.hid (fun j hj h => by omega)⟩
  case round =>
    obtain ⟨i, hig, hI, hall⟩ := hrel
    cases gk with
    | zero =>
      obtain rfl : i = l.length := by omega
      have hnx := fun ty => next_end (P := Tryd.prog) _ _ _ _ ty hI.out.b (by rw [hsz]; omega)
      have hr : Hid (iaV l = -1) := Lib.hid (by
        unfold iaV
        rw [if_pos]
        rw [List.all_eq_true]
        intro x hx
        obtain ⟨j, hj, rfl⟩ := List.getElem_of_mem hx
        exact congrArg not (hall.out j hj hj))
      clear hall
      go_wp2
      go_ret
      exact ⟨ret_int hr.out.symm, hI.out.m⟩
    | succ g =>
      have hi : i < l.length := by omega
      have hi' : i < (sv l).size := by rw [hsz]; exact hi
      have hnx := fun ty => next_at (P := Tryd.prog) _ _ _ _ ty hI.out.b hi'
      obtain ⟨d, hd⟩ : ∃ d, (Utf8.decode (sv l) i).1 = d := ⟨_, rfl⟩
      obtain ⟨k, hk⟩ : ∃ k, (Utf8.decode (sv l) i).2 = k := ⟨_, rfl⟩
      rw [hd, hk] at hnx
      have hN := Lib.hid (hI.out.next (i + k))
      by_cases hlow : ((sv l).get! i).toNat < 128
      · have hdec := decode_low (sv l) i hlow
        obtain ⟨x, hx⟩ : ∃ x, l[i] = x := ⟨_, rfl⟩
        have hgx : (sv l).get! i = x := by rw [← hx]; exact get_sv l i hi
        rw [hdec, hgx] at hd
        rw [hdec] at hk
        rw [hgx] at hlow
        have hd' : x.toNat = d := hd
        have hk' : 1 = k := hk
        have hir := fun w => Tryd.strings_IndexRune_ascii (sv bads) (x.toNat : Int) w (by omega) (by omega)
        rw [sv_list, Int.toNat_natCast, Nat.toUInt8_eq, UInt8.ofNat_toNat] at hir
        obtain ⟨h1, h2⟩ := has_idx x bads
        rw [← bads_eq] at h2
        obtain ⟨m, hm⟩ : ∃ m, Lib.indexByte bads x = m := ⟨_, rfl⟩
        rw [hm] at hir h1 h2
        rcases hB : badV x with _ | _
        · rw [hB, decide_eq_false_iff_not] at h2
          have hm1 : ¬ (0 : Int) ≤ m := h2
          have Hall : Hid (∀ j (hj : j < l.length), j < i + 1 → badV l[j] = false) := Lib.hid (fun j hj hjk => by
            rcases Nat.lt_or_ge j i with h1 | h1
            · exact hall.out j hj h1
            · obtain rfl : j = i := by omega
              exact (congrArg badV hx).trans hB)
          subst hd' hk'
          clear hB h2 hm hx hdec hall hd hk hi' hlow
          go_wp2_with (fail)
          refine (hir _).mono ?_
          rintro e w2 ⟨rfl, rfl⟩
          go_wp2
          go_roundg g
          case measure => omega
          case rel => exact ⟨i + 1, by omega, hN, Hall⟩
        · rw [hB, decide_eq_true_iff] at h2
          have hr : Hid (iaV l = (i : Int)) := Lib.hid (by
            unfold iaV
            obtain ⟨e1, e2, e3⟩ := tw_at (fun x => !badV x) l i (by omega) (fun j hj hjk => congrArg not (hall.out j hj hjk)) (fun _ => congrArg not ((congrArg badV hx).trans hB))
            have : l.all (fun x => !badV x) = false := by
              rw [List.all_eq_false]
              exact ⟨l[i], List.getElem_mem hi, fun h => by rw [congrArg not ((congrArg badV hx).trans hB)] at h; cases h⟩
            rw [this, e1]
            rfl)
          subst hd' hk'
          clear hB hm hx hdec hall hd hk hi' hlow
          go_wp2_with (fail)
          refine (hir _).mono ?_
          rintro e w2 ⟨rfl, rfl⟩
          go_wp2
          go_ret
          exact ⟨ret_int hr.out.symm, hN.out.m⟩
      · have hb2 : 128 ≤ ((sv l).get! i).toNat := by omega
        have hdec := decode_high (sv l) i hlow
        obtain ⟨s1, s2, s3⟩ := dec_span (sv l) i hi' hb2
        rw [hd] at hdec
        rw [hk] at s1 s2 s3
        rw [hsz] at s2
        have Hall : Hid (∀ j (hj : j < l.length), j < i + k → badV l[j] = false) := Lib.hid (fun j hj hjk => by
          rcases Nat.lt_or_ge j i with h1 | h1
          · exact hall.out j hj h1
          · have h2 := s3 (j - i) (by omega)
            rw [show i + (j - i) = j by omega] at h2
            exact bads_low' (by rw [← get_sv l j hj]; exact h2))
        have hd0 : (128 : Int) ≤ (d : Int) := by omega
        have hir := fun w => rune_far (d : Int) hd0 w
        clear s3 hdec hb2 hlow hall hd hk hi'
        go_wp2_with (fail)
        refine (hir _).mono ?_
        rintro e w2 ⟨rfl, hm2⟩
        have HN := Lib.hid (hN.out.mod hm2)
        clear hm2
        go_wp2
        go_roundg (l.length - (i + k))
        case measure => omega
        case rel => exact ⟨i + k, by omega, HN, Hall⟩
/-- In any text. -/
theorem ia_any (l : Bs) (hl : l.length ≤ 4294967280) (w : World) : Calls Tryd.prog 62 #[.string (sv l), .string (sv bads)] w fun e w' => e = .returned (.int .i64 (iaV l)) ∧ Mod (fun _ => False) w w' := by
  by_cases h8 : l.length ≤ 8
  · exact ia_short l h8 w
  · have h := Tryd.strings_IndexAny_long (zero_of_info (n := 256) (by kernel_rfl)).1 (sv l) (sv bads) w (by decide) (by rw [sv_size]; omega) (by rw [sv_size]; omega) (by decide) (fun j b hb => bads_low b (List.mem_of_getElem? hb))
    rw [sv_list, sv_list, ia_eq] at h
    exact h.mono fun e w' ⟨h1, h2⟩ => ⟨h1, by rw [h2]; exact ((Mod.refl _ _).alloc _).alloc _⟩
end Go.Proofs.YtkmidilaabgooaaDoor
