/-
  Clean.
-/
import Derived.Test.YtokojeiiobhciaaDoorWr
import Derived.Lib.TrimU
namespace Go.Proofs.YtokojeiiobhciaaDoor
open Go.RowKit Mem
set_option linter.unusedVariables false
set_option linter.unusedSimpArgs false

/-- What Clean makes of the rest of a text. -/
def clI (r : Int) : Int := if r = 0 then 65533 else r
theorem clI_range (d : Nat) (h : d ≤ 1114111) : -2147483648 ≤ clI d ∧ clI d ≤ 2147483647 := by unfold clI; split <;> omega
def clB (s : ByteArray) : Nat → Nat → Bs
  | 0, _ => []
  | f + 1, p => if p < s.size then Lib.encodeRune (clI ((Utf8.decode s p).1 : Int)) ++ clB s f (p + (Utf8.decode s p).2) else []
set_option maxRecDepth 100000 in
set_option maxHeartbeats 3200000 in
theorem clean_any (A : Option Addr) (n c : Nat) (s : Bs) (w : World) (hs : s.length ≤ 1000000000000) (hcv0 : ∀ w' : World, Mod (fun _ => False) w w' → (convert 30 9 (.slice A n c)).run Tryd.prog w' = .ok (.string (sv s)) w') :
    Calls Tryd.prog 11 #[.slice A n c] w fun e w' => e = .returned (.string (sv (clB (sv s) s.length 0))) ∧ Mod (fun _ => False) w w' := by
  have hcv := hcv0 (w.alloc (Obj.cells #[Value.pointer none, Value.slice none 0 0] 39)) ((Mod.refl _ w).alloc _)
  clear hcv0
  go_enter Tryd.func11, Tryd.ntmps11
  go_wp2_with (fail)
  go_loopg [5, 9] s.length (fun g _ _ wx => ∃ (i : Nat) (l : Bs), i ≤ s.length ∧ Hid (wx.heap[w.heap.size + 1]? = some (.stringIter (sv s) i)) ∧ Hid (l ++ clB (sv s) g i = clB (sv s) s.length 0) ∧ Hid (Lib.IsBuilderF 39 5 w.heap.size w.heap.size (Lib.byteCells l) wx) ∧ s.length - i ≤ g ∧ l.length ≤ 4 * i ∧ Hid (Mod (fun _ => False) w wx))
  case atStart =>
    refine ⟨0, [], by omega, Lib.hid ?_, Lib.hid (List.nil_append _), Lib.hid ?_, by omega, by simp, Lib.hid (((Mod.refl _ w).alloc _).trans (mod_iter _ _ _) (fun _ h => h.elim))⟩
    · have := World.iter_heap (w.alloc (Obj.cells #[Value.pointer none, Value.slice none 0 0] 39)) (sv s) 0
      simpa using this
    · have hb0 : Lib.IsBuilderF 39 5 w.heap.size w.heap.size [] (w.alloc (Obj.cells #[Value.pointer none, Value.slice none 0 0] 39)) := .inl ⟨Nat.le_refl _, .slice none 0 0, heap_alloc_new w _, World.ownsRowF_nil _ _ _ _, by simp [Value.ownBlock]⟩
      exact hb0.alloc _
  case round =>
    obtain ⟨i, l, his, hit, hE, hbu, hg, hbl, hm⟩ := hrel
    have hsz : (sv s).size = s.length := rfl
    have hwb : w.heap.size ≤ wr.heap.size := hm.out.size
    by_cases hi : i < s.length
    · cases gk with
      | zero => omega
      | succ g =>
        have hi' : i < (sv s).size := hi
        have hnx := fun ty => Lib.run_next_any_at (P := Tryd.prog) _ _ _ _ ty hit.out hi'
        obtain ⟨d, hd⟩ : ∃ d, (Utf8.decode (sv s) i).1 = d := ⟨_, rfl⟩
        obtain ⟨k, hk⟩ : ∃ k, (Utf8.decode (sv s) i).2 = k := ⟨_, rfl⟩
        have hdk : d ≤ 1114111 ∧ 1 ≤ k ∧ i + k ≤ s.length := by
          refine ⟨by rw [← hd]; exact Lib.rune_le _ _, ?_⟩
          by_cases hlow : ((sv s).get! i).toNat < 128
          · rw [decode_low _ _ hlow] at hk
            have hk' : 1 = k := hk
            omega
          · obtain ⟨s1, s2, _⟩ := dec_span (sv s) i hi' (by omega)
            rw [hk] at s1 s2
            exact ⟨s1, by rw [hsz] at s2; exact s2⟩
        have hcl : clB (sv s) (g + 1) i = Lib.encodeRune (clI (d : Int)) ++ clB (sv s) g (i + k) := by
          show (if i < (sv s).size then _ else _) = _
          rw [if_pos hi', hd, hk]
        have hE2 := hE.out
        rw [hcl] at hE2
        rw [hd, hk] at hnx
        have hr := clI_range d hdk.1
        have hb2 := hbu.out.iterAt hit.out (i + k)
        have hw2 := wrune w.heap.size w.heap.size (Lib.byteCells l) (clI d) hr.1 hr.2 (wr.iterAt (w.heap.size + 1) (sv s) (i + k)) hb2 (by rw [Lib.byteCells, List.length_map]; omega) (by rw [Lib.iterAt_size]; exact hwb)
        have HE2 := Lib.hid hE2
        have Hm := Lib.hid hm
        have HI := Lib.hid (Lib.iterAt_heap wr (w.heap.size + 1) (sv s) i (i + k) hit.out)
        have hlen4 := (Lib.encodeRuneZ_length (clI (d : Int))).2
        have hdk2 := hdk.2
        have hel : (Lib.encodeRune (clI (d : Int))).length ≤ 4 := by
          have := congrArg List.length (Lib.byteCells_encodeRune (clI (d : Int)))
          rw [Lib.byteCells, Lib.runeCells, List.length_map, List.length_map] at this
          omega
        have tailg : ∀ w6, Lib.BuilderAtF 39 5 w.heap.size w.heap.size (.pointer (some ⟨w.heap.size, 0, none⟩)) (Lib.byteCells l ++ Lib.runeCells (clI d)) w6 → Below w.heap.size (wr.iterAt (w.heap.size + 1) (sv s) (i + k)) w6 → Lib.OthersKept 5 (some w.heap.size) (wr.iterAt (w.heap.size + 1) (sv s) (i + k)) w6 →
            Hid (w6.heap[w.heap.size + 1]? = some (.stringIter (sv s) (i + k))) ∧ Hid (Lib.IsBuilderF 39 5 w.heap.size w.heap.size (Lib.byteCells (l ++ Lib.encodeRune (clI d))) w6) ∧ Hid (Mod (fun _ => False) w w6) := fun w6 h1 h2 h3 => by
          refine ⟨Lib.hid (h3.iter HI.out (by omega)), Lib.hid (.inr ?_), Lib.hid ?_⟩
          · have e : Lib.byteCells (l ++ Lib.encodeRune (clI (d : Int))) = Lib.byteCells l ++ Lib.runeCells (clI d) := by rw [← Lib.byteCells_encodeRune]; simp [Lib.byteCells]
            rw [e]; exact h1
          · have hbw := Lib.below_iterAt (Below.refl w.heap.size wr) (k := w.heap.size + 1) (by omega) (sv s) (i + k)
            have hb := hbw.trans h2
            exact hm.out.trans (T := fun i => w.heap.size ≤ i) ⟨hb.os, hb.tape, hb.output, hb.size, fun i hi hn => hb.block i (by omega)⟩ (fun i hi => .inr hi)
        clear hE hE2 hcl hit hbu hm hb2 hd hk hi' hdk hlen4
        by_cases hd0 : d = 0
        · have hc : clI (d : Int) = 65533 := by rw [hd0]; rfl
          rw [hc] at hw2 tailg HE2 hel
          have hd0' : ((d : Int) == 0) = true := by rw [hd0]; rfl
          clear hc hd0 hr
          go_wp2_with (fail)
          refine hw2.mono ?_
          rintro e w6 ⟨rfl, h1, h2, h3⟩
          obtain ⟨t1, t2, t3⟩ := tailg w6 h1 h2 h3
          clear h1 h2 h3 tailg hw2
          go_wp2_with (fail)
          go_roundg g
          case measure => omega
          case rel => exact ⟨i + k, l ++ Lib.encodeRune 65533, by omega, t1, Lib.hid (by rw [List.append_assoc]; exact HE2.out), t2, by omega, by rw [List.length_append]; omega, t3⟩
        · have hc : clI (d : Int) = (d : Int) := by unfold clI; rw [if_neg (by omega)]
          rw [hc] at hw2 tailg HE2 hel
          have hd0' : ((d : Int) == 0) = false := by simp; omega
          clear hc hd0 hr
          go_wp2_with (fail)
          refine hw2.mono ?_
          rintro e w6 ⟨rfl, h1, h2, h3⟩
          obtain ⟨t1, t2, t3⟩ := tailg w6 h1 h2 h3
          clear h1 h2 h3 tailg hw2
          go_wp2_with (fail)
          go_roundg g
          case measure => omega
          case rel => exact ⟨i + k, l ++ Lib.encodeRune d, by omega, t1, Lib.hid (by rw [List.append_assoc]; exact HE2.out), t2, by omega, by rw [List.length_append]; omega, t3⟩
    · have hnx := fun ty => Lib.run_next_end_at (P := Tryd.prog) _ _ _ _ ty hit.out (by rw [hsz]; omega)
      have hst := Tryd.Builder_String_any_k w.heap.size w.heap.size l wr hbu.out hwb
      go_wp2_with (fail)
      refine hst.mono ?_
      rintro e w6 ⟨rfl, _, hb6, _⟩
      go_wp2_with (fail)
      go_ret
      have hil : i = s.length := by omega
      have he : clB (sv s) gk i = [] := by
        cases gk with
        | zero => rfl
        | succ g =>
          show (if i < (sv s).size then _ else _) = _
          rw [if_neg (by rw [hsz]; omega)]
      have hE2 := hE.out
      rw [he, List.append_nil] at hE2
      rw [← hE2]
      exact ⟨rfl, hm.out.trans (T := fun i => w.heap.size ≤ i) ⟨hb6.os, hb6.tape, hb6.output, hb6.size, fun i hi hn => hb6.block i (by omega)⟩ (fun i hi => .inr hi)⟩
end Go.Proofs.YtokojeiiobhciaaDoor
