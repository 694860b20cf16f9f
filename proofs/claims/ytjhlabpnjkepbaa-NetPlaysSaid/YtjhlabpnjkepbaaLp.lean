/-
  NetPlays: for every list of steps the law returns true, and what was handed in reads as it did. No condition.
-/
import Derived.Test.YtjhlabpnjkepbaaRows
import Derived.WalkKit
import Derived.ProofKit
import Derived.OpenShut
import Derived.ShutString
import Derived.Test.YtjhlabpnjkepbaaPc
import Derived.Below
import Derived.ChangeOld
import Derived.Deep.Slices
namespace Go.Proofs.Ytjhlabpnjkepbaa.netPlays
open Go.ChangeShapes Go.WideShapes Go.ChangeAt Go.RowKit Mem
set_option linter.unusedVariables false

theorem own : ownKnob Try.prog.godebug = none := by kernel_rfl
theorem laidOut : laidOutB Try.prog = true := by kernel_rfl

section
variable {H : Type} {enc : TypeId × Value → H} {w : World} {held : Bool} {fuel : Nat} {v : Value} {x : DataW H × List MemPlace}
/-- Bytes that came in. -/
theorem old_of (h : DataW.trod enc Try.prog w 0 (fun _ => true) held fuel 32 [v] = some x) : ∃ bb, Old w.heap.size w v bb := by
  rcases open_ints Try.underlying32 Try.underlying5 (by kernel_rfl) h with ⟨hcs, _⟩ | ⟨a, len, cap, zs, hcs, _, hl, hm, hz, _, hcell, hwz⟩
  · simp at hcs
    exact ⟨[], .inl ⟨hcs, rfl⟩⟩
  · simp at hcs
    subst hcs
    simp at hz
    refine ⟨(zs.take len).map fun n => UInt8.ofNat n.toNat, .inr ⟨a, cap, ?_, ?_, hm, fun j u hu => ?_⟩⟩
    · simp [hz, Nat.min_eq_left hl]
    · simp [hz]; omega
    · have hj : j < len := by
        have := (List.getElem?_eq_some_iff.1 hu).1
        simp [bts, hz] at this
        omega
      have hjz : j < zs.length := by omega
      have hw : (Lit.int .u8 (zs.getD j 0)).wf = true := hwz _ (by rw [List.getD_eq_getElem?_getD, List.getElem?_eq_getElem hjz]; exact List.getElem_mem _)
      have hb : 0 ≤ zs.getD j 0 ∧ zs.getD j 0 < 256 := by
        have h1 : IntKind.u8.min ≤ zs.getD j 0 ∧ zs.getD j 0 ≤ IntKind.u8.max := by simpa [Lit.wf] using hw
        have e1 : IntKind.u8.min = 0 := by decide
        have e2 : IntKind.u8.max = 255 := by decide
        omega
      have hc := hcell j hjz
      have hlt := World.block_lt_of_cell? w _ hc
      rw [add_block] at hlt
      refine ⟨?_, hlt⟩
      rw [hc]
      have hg : zs.getD j 0 = zs[j] := by rw [List.getD_eq_getElem?_getD, List.getElem?_eq_getElem hjz]; rfl
      rw [hg] at hb ⊢
      simp [bts, hj, hjz] at hu
      rw [← hu]
      congr 2
      omega
/-- One step that came in. -/
theorem op_of {ad : Addr} {cs : List Value} (h : DataW.trod enc Try.prog w 0 (fun _ => true) held fuel 34 cs = some x) (hc : ∀ i, i < 5 → w.cell? (ad.add i) = cs[i]?) : IsOp w.heap.size w ad := by
  obtain ⟨xs, n, rfl, rfl, hl, hxl, hf⟩ := DataW.trod_struct Try.underlying34 h
  have hc3 : Try.prog.cellsOf 3 = 1 := by kernel_rfl
  have hc32 : Try.prog.cellsOf 32 = 1 := by kernel_rfl
  have hc28 : Try.prog.cellsOf 28 = 1 := by kernel_rfl
  have hc34 : Try.prog.cellsOf 34 = 5 := by kernel_rfl
  rw [hc34] at hl
  match cs, hl with
  | [c0, c1, c2, c3, c4], _ =>
    have x5 : xs.length = 5 := hxl
    have f0 := hf 0 _ rfl
    have f1 := hf 1 _ rfl
    have f2 := hf 2 _ rfl
    have f3 := hf 3 _ rfl
    have f4 := hf 4 _ rfl
    rw [List.getElem?_eq_getElem (by omega)] at f0 f1 f2 f3 f4
    change DataW.trod enc Try.prog w 0 _ held n 3 (([c0, c1, c2, c3, c4].drop 0).take (Try.prog.cellsOf 3)) = _ at f0
    change DataW.trod enc Try.prog w 0 _ held n 3 (([c0, c1, c2, c3, c4].drop 1).take (Try.prog.cellsOf 3)) = _ at f1
    change DataW.trod enc Try.prog w 0 _ held n 3 (([c0, c1, c2, c3, c4].drop 2).take (Try.prog.cellsOf 3)) = _ at f2
    change DataW.trod enc Try.prog w 0 _ held n 32 (([c0, c1, c2, c3, c4].drop 3).take (Try.prog.cellsOf 32)) = _ at f3
    change DataW.trod enc Try.prog w 0 _ held n 28 (([c0, c1, c2, c3, c4].drop 4).take (Try.prog.cellsOf 28)) = _ at f4
    rw [hc3] at f0 f1 f2
    rw [hc32] at f3
    rw [hc28] at f4
    obtain ⟨k, e0, _, w0⟩ := DataW.trod_int Try.underlying3 f0
    obtain ⟨a, e1, _, w1⟩ := DataW.trod_int Try.underlying3 f1
    obtain ⟨b, e2, _, w2⟩ := DataW.trod_int Try.underlying3 f2
    obtain ⟨bb, hold⟩ := old_of f3
    obtain ⟨sd, e4, _, w4⟩ := DataW.trod_int Try.underlying28 f4
    simp at e0 e1 e2 e4
    subst e0 e1 e2 e4
    have b1 : -9223372036854775808 ≤ a ∧ a ≤ 9223372036854775807 := by
      have h1 : IntKind.i64.min ≤ a ∧ a ≤ IntKind.i64.max := by simpa [Lit.wf] using w1
      have e1 : IntKind.i64.min = -9223372036854775808 := by decide
      have e2 : IntKind.i64.max = 9223372036854775807 := by decide
      omega
    have b2 : -9223372036854775808 ≤ b ∧ b ≤ 9223372036854775807 := by
      have h1 : IntKind.i64.min ≤ b ∧ b ≤ IntKind.i64.max := by simpa [Lit.wf] using w2
      have e1 : IntKind.i64.min = -9223372036854775808 := by decide
      have e2 : IntKind.i64.max = 9223372036854775807 := by decide
      omega
    have b4 : 0 ≤ sd ∧ sd ≤ 18446744073709551615 := by
      have h1 : IntKind.u64.min ≤ sd ∧ sd ≤ IntKind.u64.max := by simpa [Lit.wf] using w4
      have e1 : IntKind.u64.min = 0 := by decide
      have e2 : IntKind.u64.max = 18446744073709551615 := by decide
      omega
    obtain ⟨s, rfl⟩ := Int.eq_ofNat_of_zero_le b4.1
    have q0 := hc 0 (by omega)
    have q1 := hc 1 (by omega)
    have q2 := hc 2 (by omega)
    have q3 := hc 3 (by omega)
    have q4 := hc 4 (by omega)
    exact ⟨k, a, b, c3, bb, s, by simpa [Addr.add] using q0, by simpa [Addr.add] using q1, by simpa [Addr.add] using q2, by simpa [Addr.add] using q3, by simpa [Addr.add] using q4, hold, by omega, b1.1, b1.2, b2.1, b2.2⟩
theorem ops_of {a : Option Addr} {len cap : Nat} (h : DataW.trod enc Try.prog w 0 (fun _ => true) held fuel 22 [.slice a len cap] = some x) : IsOps w a len cap ∧ len ≤ maxLen := by
  rcases Deep.open_slice Try.underlying22 h with ⟨hcs, _⟩ | ⟨ad, l, c, m, n, D, Pl, hcs, _, hl, hm, hmm, _, hel⟩
  · simp at hcs
    obtain ⟨rfl, rfl, rfl⟩ := hcs
    exact ⟨.inl ⟨rfl, rfl, rfl⟩, Nat.zero_le _⟩
  · simp at hcs
    obtain ⟨rfl, rfl, rfl⟩ := hcs
    simp at hmm
    subst hmm
    refine ⟨.inr ⟨ad, rfl, hl, hm, fun i hi => ?_⟩, by omega⟩
    obtain ⟨cs', h1, h2⟩ := hel i (by omega)
    have hc34 : Try.prog.cellsOf 34 = 5 := by kernel_rfl
    rw [hc34] at h1
    obtain ⟨_, _, hcell⟩ := World.cells?_some h1
    exact op_of h2 hcell
end

/-! ### THE ROW's STEP: WRITTEN OUT: LEAVE IT -/
set_option maxRecDepth 100000 in
theorem lifted (os : Os) (started : os.Started) (H : Type) (enc : TypeId × Value → H) :
    ReturnsInHanded {} Try.checked os 3 .any (Rows.netPlaysSpec.pre6 enc Try.prog Try.f3 Rows.netPlaysRow.domain false) (Rows.netPlaysSpec.post enc Try.prog Try.f3 false true false false) := by
  refine returnsInHanded_of_change (C := Try.checked) own started (by kernel_rfl) Try.func3
    (ChangeSpec.witness6 (enc := enc) (C := Try.checked) false ⟨#[], #[.slice none 0 0], []⟩ 8 (by kernel_rfl) (by kernel_rfl) (by kernel_rfl) (by kernel_rfl)) ?_
  intro W base args ds gs before hval0 hW hcnd _
  have hval : ∀ (j : Nat) t v, Try.f3.params[j]? = some t → args[j]? = some v → Value.okWide Try.prog W .any base t v := hval0
  have hW' := hW
  obtain ⟨p, q, hA0, hV, rfl, hfz, hnd⟩ := hW
  have hA : DataW.TrodAll enc Try.prog W 0 (fun _ => true) true Try.f3.params.toList args.toList ds p := hA0
  rw [Try.params3] at hA hval
  obtain ⟨v0, vs0, d0, ds0, p0, q0, hargs, rfl, rfl, h0, r0⟩ := trodAll_cons hA
  obtain ⟨rfl, rfl, rfl⟩ := trodAll_nil r0
  obtain rfl : args = #[v0] := by cases args; simp_all
  obtain ⟨rfl, rfl⟩ := trodVars_none hV
  obtain ⟨a0, len0, cap0, rfl⟩ := okWide_slice Try.underlying22 (hval 0 22 v0 rfl rfl)
  have k0 := h0
  have lt0 : ∀ x ∈ p0, x.block < W.heap.size := by obtain ⟨m, hm⟩ := k0; exact DataW.trod_lt m _ _ _ hm
  obtain ⟨w0, l0⟩ : IsOps W a0 len0 cap0 ∧ len0 ≤ maxLen := by obtain ⟨fuel, hf⟩ := h0; exact ops_of hf
  clear hA0 hval0
  refine (plays_any a0 len0 cap0 W w0 l0).mono fun e W' ⟨he, bel⟩ => ?_
  subst he
  exact ⟨_, rfl, _, _, _, [], _, [], hW', trodAll_mk1 (shut_bool Try.underlying4 _), (trodAll_cons_mk (Below.trod laidOut (by kernel_rfl) (of_decide_eq_true (by kernel_rfl)) k0 bel lt0) trodAll_mk0), rfl, bel.frame _, fun h => by cases h⟩

theorem over : Rows.netPlaysRow.holds Try.pinned (OpenSpec.ofChange Rows.netPlaysSpec) :=
  OpenClaim.holds_of_wide 3 Try.f3 rfl rfl rfl rfl rfl rfl rfl ⟨rfl, rfl, rfl, rfl, rfl⟩ rfl rfl rfl rfl rfl (by kernel_rfl) Try.func3 (by kernel_rfl)
    (of_decide_eq_true (by kernel_rfl)) (by unfold Func.isWrapper; first | (rw [if_pos (by decide +kernel)]; kernel_rfl) | (rw [if_neg (by decide +kernel)]; exact ⟨rfl, rfl⟩))
    (fun os started H enc _ => lifted os started H enc)

/-- ████ THE STATEMENT ████ -/
theorem proved : Rows.NetPlaysSaid :=
  over
#print axioms proved
end Go.Proofs.Ytjhlabpnjkepbaa.netPlays
