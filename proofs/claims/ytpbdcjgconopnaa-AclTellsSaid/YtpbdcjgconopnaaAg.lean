/-
  slices.Clone at grants; slices.Insert with and without room.
-/
import Derived.Test.YtpbdcjgconopnaaAf
import Derived.Lib.AppendZerosOnto
namespace Go.Proofs.Ytpbdcjgconopnaa
open Go.RowKit Mem
set_option linter.unusedVariables false

theorem el24 : El Try.prog 22 24 3 40 := El.mk_ (z := .agg #[.string ⟨#[]⟩, .string ⟨#[]⟩, .int .i64 0]) Try.underlying22 info24 (by kernel_rfl) (by decide)
/-- Grants as a row's cells. -/
def gsc (l : List Gr) : List Value := l.flatMap gcells
theorem gsc_cons (g : Gr) (l : List Gr) : gsc (g :: l) = gcells g ++ gsc l := rfl
theorem gsc_append (l m : List Gr) : gsc (l ++ m) = gsc l ++ gsc m := by simp [gsc]
theorem gsc_len : ∀ l : List Gr, (gsc l).length = l.length * 3
  | [] => rfl
  | g :: l => by rw [gsc_cons, List.length_append, gsc_len l, List.length_cons]; simp [gcells]; omega
theorem gsc_one (l : List Gr) : ∀ u ∈ gsc l, u.oneCell' = true := by
  intro u hu
  simp only [gsc, List.mem_flatMap, gcells, List.mem_cons, List.not_mem_nil, or_false] at hu
  obtain ⟨g, _, rfl | rfl | rfl⟩ := hu <;> rfl
theorem gsc_take : ∀ (l : List Gr) (i : Nat), (gsc l).take (i * 3) = gsc (l.take i)
  | _, 0 => by simp [gsc]
  | [], i + 1 => by simp [gsc]
  | g :: l, i + 1 => by
    rw [gsc_cons, show (i + 1) * 3 = 3 + i * 3 by omega, List.take_append]
    rw [List.take_of_length_le (by simp [gcells]), List.take_succ_cons, gsc_cons, ← gsc_take l i]
    simp [gcells]
theorem gsc_drop : ∀ (l : List Gr) (i : Nat), (gsc l).drop (i * 3) = gsc (l.drop i)
  | _, 0 => by simp [gsc]
  | [], i + 1 => by simp [gsc]
  | g :: l, i + 1 => by
    rw [gsc_cons, show (i + 1) * 3 = 3 + i * 3 by omega, List.drop_append]
    simp [gcells, ← gsc_drop l i]
theorem gsc_get : ∀ (l : List Gr) (i : Nat) (h : i < l.length), (gsc l)[i * 3]? = some (.string (sv l[i].t)) ∧ (gsc l)[i * 3 + 1]? = some (.string (sv l[i].w)) ∧ (gsc l)[i * 3 + 2]? = some (.int .i64 l[i].r)
  | g :: l, 0, _ => ⟨rfl, rfl, rfl⟩
  | g :: l, i + 1, h => by
    obtain ⟨a, b, c⟩ := gsc_get l i (by simpa using h)
    rw [gsc_cons, show (i + 1) * 3 = 3 + i * 3 by omega]
    refine ⟨?_, ?_, ?_⟩
    · rw [List.getElem?_append_right (by simp [gcells])]; simpa [gcells] using a
    · rw [List.getElem?_append_right (by simp [gcells]; omega)]
      rw [show 3 + i * 3 + 1 - (gcells g).length = i * 3 + 1 by simp [gcells]; omega]; exact b
    · rw [List.getElem?_append_right (by simp [gcells]; omega)]
      rw [show 3 + i * 3 + 2 - (gcells g).length = i * 3 + 2 by simp [gcells]; omega]; exact c
theorem gsc_at {l : List Gr} {j : Nat} {u : Value} (h : (gsc l)[j]? = some u) : ∃ i r, ∃ hi : i < l.length, j = i * 3 + r ∧ ((r = 0 ∧ u = .string (sv l[i].t)) ∨ (r = 1 ∧ u = .string (sv l[i].w)) ∨ (r = 2 ∧ u = .int .i64 l[i].r)) := by
  have hj := (List.getElem?_eq_some_iff.1 h).1
  rw [gsc_len] at hj
  have hi : j / 3 < l.length := by omega
  obtain ⟨a, b, c⟩ := gsc_get l (j / 3) hi
  refine ⟨j / 3, j % 3, hi, by omega, ?_⟩
  rcases (by omega : j % 3 = 0 ∨ j % 3 = 1 ∨ j % 3 = 2) with h3 | h3 | h3
  · left; refine ⟨h3, ?_⟩; rw [show j = j / 3 * 3 by omega, a] at h; exact (Option.some.inj h).symm
  · right; left; refine ⟨h3, ?_⟩; rw [show j = j / 3 * 3 + 1 by omega, b] at h; exact (Option.some.inj h).symm
  · right; right; refine ⟨h3, ?_⟩; rw [show j = j / 3 * 3 + 2 by omega, c] at h; exact (Option.some.inj h).symm
theorem Gs.cells {w : World} {ad : Addr} {n c : Nat} {l : List Gr} (h : Gs w (.slice (some ad) n c) l) : ∀ j u, (gsc l)[j]? = some u → w.cell? (ad.add j) = some u := by
  intro j u hu
  obtain ⟨i, r, hi, rfl, hr⟩ := gsc_at hu
  obtain ⟨a, b, d⟩ := h.at_ i hi
  rcases hr with ⟨rfl, rfl⟩ | ⟨rfl, rfl⟩ | ⟨rfl, rfl⟩
  · exact a
  · rw [← b]; congr 1; unfold Addr.add; split <;> split <;> simp_all <;> omega
  · rw [← d]; congr 1; unfold Addr.add; split <;> split <;> simp_all <;> omega
theorem own_gs {w : World} {base : Nat} {v : Value} {l : List Gr} (h : w.ownsRow base 24 3 v l.length (gsc l)) : Gs w v l := by
  rcases own_cases h with ⟨rfl, hn, _⟩ | ⟨g, cap, cur, rfl, _, _, hn, hc, _, _⟩
  · exact .inl ⟨rfl, List.eq_nil_of_length_eq_zero hn⟩
  · obtain ⟨_, _, _, _, hrow, _⟩ := row_at h
    refine .inr ⟨⟨g, 0, none⟩, cap, rfl, hn, hc, fun i hi => ?_⟩
    obtain ⟨a, b, c⟩ := gsc_get l i hi
    have hadd : (⟨g, 0, none⟩ : Addr).add (i * 3) = ⟨g, i * 3, none⟩ := by rw [Addr.add_lit, Nat.zero_add]
    rw [hadd]
    exact ⟨hrow _ _ a, hrow _ _ b, hrow _ _ c⟩

/-- A fresh copy. -/
def ClonedG (l : List Gr) (w : World) (e : Ending) (w' : World) : Prop := ∃ v, e = .returned v ∧ w'.ownsRow w.heap.size 24 3 v l.length (gsc l) ∧ Mod (fun _ => False) w w'
set_option maxHeartbeats 800000 in
theorem clone_any (v : Value) (l : List Gr) (w : World) (h : Gs w v l) (hl : l.length ≤ 1000) : Calls Try.prog 22 #[v] w (ClonedG l w) := by
  have hal : Mod (fun _ => False) w (w.alloc (.cells #[] 24)) := (Mod.refl _ _).alloc _
  have hown : (w.alloc (.cells #[] 24)).ownsRow w.heap.size 24 3 (.slice (some ⟨w.heap.size, 0, none⟩) 0 0) 0 [] := own_of (Blk.new w #[] 24) (Nat.le_refl _) (Nat.le_refl _) (Nat.zero_le _) rfl rfl
  have h' := h.new hal
  rcases h with ⟨rfl, rfl⟩ | ⟨ad, c, rfl, h1, h2, hc⟩
  · have hfin : ClonedG [] w (.returned (.slice none 0 0)) w := ⟨_, rfl, World.ownsRow_nil _ _ _ _, Mod.refl _ _⟩
    have Hfin := Lib.hid hfin
    clear hfin hown hal h'
    have hnil := fun wx => Lib.run_eql_slice_nil (P := Try.prog) wx 22 24 none 0 0 0 0 Try.underlying22
    go_enter Try.func22, Try.ntmps22
    go_wp2
    go_ret
    exact Hfin.out
  · obtain ⟨A, k, w', hr, ho, hm, _, _⟩ := el24.app w.heap.size 0 _ _ _ hown ad l.length c (gsc l) (by unfold maxLen; omega) (by omega) (by rw [gsc_len]) (h'.cells) (gsc_one l) hal.size
    rw [Nat.zero_add] at hr ho
    have hfin : ClonedG l w (.returned (.slice A l.length k)) w' := ⟨_, rfl, ho, hal.trans hm (fun i hi => .inr (own_lt hown hi).1)⟩
    have Hfin := Lib.hid hfin
    clear hfin hown hal h' hc ho hm
    have hnil : ∀ wx, (binOp .eql 22 (.slice (some ad) l.length c) (.slice none 0 0)).run Try.prog wx = .ok (.bool false) wx := fun wx => by
      have := Lib.run_eql_slice_nil (P := Try.prog) wx 22 24 (some ad) l.length c 0 0 Try.underlying22
      simpa using this
    go_enter Try.func22, Try.ntmps22
    go_wp2_with (at_builtin; refine wpList_append_run rfl _ _ 22 22 rfl _ _ rfl rfl hr ?_)
    go_ret
    exact Hfin.out
end Go.Proofs.Ytpbdcjgconopnaa
