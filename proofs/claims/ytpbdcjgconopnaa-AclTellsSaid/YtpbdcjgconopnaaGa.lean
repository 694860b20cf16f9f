/-
  Grants that came in.
-/
import Derived.Test.YtpbdcjgconopnaaSe
import Derived.Deep.Slices
import Derived.ChangeSlices
import Derived.Maps.StringElems
namespace Go.Proofs.Ytpbdcjgconopnaa
open Go.RowKit Go.ChangeShapes Go.WideShapes Mem
set_option linter.unusedVariables false

section
variable {H : Type} {enc : TypeId × Value → H} {w : World} {held : Bool} {fuel : Nat} {v : Value} {x : DataW H × List MemPlace}
/-- One grant that came in. -/
theorem grant_of {ad : Addr} {cs : List Value} (h : DataW.trod enc Try.prog w 0 (fun _ => true) held fuel 24 cs = some x) : ∃ g : Gr, cs = gcells g ∧ Gok g := by
  obtain ⟨xs, n, rfl, rfl, hl, hxl, hf⟩ := DataW.trod_struct Try.underlying24 h
  have hc3 : Try.prog.cellsOf 3 = 1 := by kernel_rfl
  have hc9 : Try.prog.cellsOf 9 = 1 := by kernel_rfl
  have hc24 : Try.prog.cellsOf 24 = 3 := by kernel_rfl
  rw [hc24] at hl
  match cs, hl with
  | [c0, c1, c2], _ =>
    have x3 : xs.length = 3 := hxl
    have f0 := hf 0 _ rfl
    have f1 := hf 1 _ rfl
    have f2 := hf 2 _ rfl
    rw [List.getElem?_eq_getElem (by omega)] at f0 f1 f2
    change DataW.trod enc Try.prog w 0 _ held n 9 (([c0, c1, c2].drop 0).take (Try.prog.cellsOf 9)) = _ at f0
    change DataW.trod enc Try.prog w 0 _ held n 9 (([c0, c1, c2].drop 1).take (Try.prog.cellsOf 9)) = _ at f1
    change DataW.trod enc Try.prog w 0 _ held n 3 (([c0, c1, c2].drop 2).take (Try.prog.cellsOf 3)) = _ at f2
    rw [hc9] at f0 f1
    rw [hc3] at f2
    obtain ⟨a, e0, _, w0⟩ := DataW.trod_string Try.underlying9 f0
    obtain ⟨b, e1, _, w1⟩ := DataW.trod_string Try.underlying9 f1
    obtain ⟨k, e2, _, w2⟩ := DataW.trod_int Try.underlying3 f2
    simp at e0 e1 e2
    subst e0 e1 e2
    have b2 : -9223372036854775808 ≤ k ∧ k ≤ 9223372036854775807 := by
      have h1 : IntKind.i64.min ≤ k ∧ k ≤ IntKind.i64.max := by simpa [Lit.wf] using w2
      have e1 : IntKind.i64.min = -9223372036854775808 := by decide
      have e2 : IntKind.i64.max = 9223372036854775807 := by decide
      omega
    unfold maxLen at w0 w1
    refine ⟨⟨a.data.toList, b.data.toList, k⟩, by simp [gcells, sv_of], ?_, ?_, b2.1, b2.2⟩
    · show a.data.toList.length ≤ _
      rw [Array.length_toList]; exact w0
    · show b.data.toList.length ≤ _
      rw [Array.length_toList]; exact w1
theorem gather {n : Nat} {Q : Nat → Gr → Prop} (h : ∀ i, i < n → ∃ g, Q i g) : ∃ l : List Gr, l.length = n ∧ ∀ i (hi : i < l.length), Q i l[i] := by
  induction n with
  | zero => exact ⟨[], rfl, fun i hi => by simp at hi⟩
  | succ n ih =>
    obtain ⟨l, hl, hq⟩ := ih (fun i hi => h i (by omega))
    obtain ⟨g, hg⟩ := h n (by omega)
    refine ⟨l ++ [g], by simp [hl], fun i hi => ?_⟩
    by_cases hin : i < l.length
    · rw [List.getElem_append_left hin]; exact hq i hin
    · have : i = l.length := by simp at hi; omega
      subst this
      simp only [List.getElem_concat_length]
      rw [hl]; exact hg
theorem grants_of (h : DataW.trod enc Try.prog w 0 (fun _ => true) held fuel 22 [v] = some x) : ∃ l, Gs w v l ∧ Goks l := by
  rcases Deep.open_slice Try.underlying22 h with ⟨hcs, _⟩ | ⟨ad, l, c, m, n, D, Pl, hcs, _, hl, hm, hmm, _, hel⟩
  · simp at hcs
    subst hcs
    exact ⟨[], .inl ⟨rfl, rfl⟩, fun g hg => by cases hg⟩
  · simp at hcs
    subst hcs
    simp at hmm
    subst hmm
    have hc24 : Try.prog.cellsOf 24 = 3 := by kernel_rfl
    have hone : ∀ i, i < l → ∃ g : Gr, (w.cell? (ad.add (i * 3)) = some (.string (sv g.t)) ∧ w.cell? ⟨(ad.add (i * 3)).block, (ad.add (i * 3)).off + 1, none⟩ = some (.string (sv g.w)) ∧ w.cell? ⟨(ad.add (i * 3)).block, (ad.add (i * 3)).off + 2, none⟩ = some (.int .i64 g.r)) ∧ Gok g := fun i hi => by
      obtain ⟨cs', h1, h2⟩ := hel i (by omega)
      rw [hc24] at h1
      obtain ⟨_, _, hcell⟩ := World.cells?_some h1
      obtain ⟨g, rfl, hg⟩ := grant_of (ad := ad) h2
      have q0 := hcell 0 (by omega)
      have q1 := hcell 1 (by omega)
      have q2 := hcell 2 (by omega)
      exact ⟨g, ⟨by simpa [Addr.add, gcells] using q0, by simpa [Addr.add, gcells] using q1, by simpa [Addr.add, gcells] using q2⟩, hg⟩
    obtain ⟨gl, hgl, hq⟩ := gather hone
    subst hgl
    refine ⟨gl, .inr ⟨ad, m, rfl, hl, hm, fun i hi => (hq i hi).1⟩, fun g hg => ?_⟩
    obtain ⟨i, hi, rfl⟩ := List.getElem_of_mem hg
    exact (hq i hi).2
end
end Go.Proofs.Ytpbdcjgconopnaa
