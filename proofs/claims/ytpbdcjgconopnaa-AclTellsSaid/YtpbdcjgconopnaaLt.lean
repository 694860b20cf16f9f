/-
  AclTells: for every row of grants, every row of texts and all texts the law returns true, and what was handed in reads as it did. No condition.
-/
import Derived.Test.YtpbdcjgconopnaaRows
import Derived.WalkKit
import Derived.ProofKit
import Derived.OpenShut
import Derived.ShutString
import Derived.Test.YtpbdcjgconopnaaGa
import Derived.Test.YtpbdcjgconopnaaTe
import Derived.Below
import Derived.Test.YtpbdcjgconopnaaArgs
import Derived.ChangeOld
import Derived.Deep.Slices
import Derived.ChangeMaps
namespace Go.Proofs.Ytpbdcjgconopnaa.aclTells
open Go.ChangeShapes Go.WideShapes Go.ChangeAt Go.RowKit Mem
open Go.ChangeMaps (open_string shut_string)
set_option linter.unusedVariables false

theorem own : ownKnob Try.prog.godebug = none := by kernel_rfl
theorem laidOut : laidOutB Try.prog = true := by kernel_rfl

theorem sr_of {w : World} {a : Option Addr} {len cap : Nat} {ss : List ByteArray} (h : IsStrs w a len cap ss) : ∃ l : List Bs, Sr w (.slice a len cap) l ∧ ∀ s ∈ l, s.length ≤ 9223372036854775807 := by
  rcases h with ⟨rfl, rfl, rfl, rfl⟩ | ⟨x, rfl, hl, hm, hz, hc, hw⟩
  · exact ⟨[], .inl ⟨rfl, rfl⟩, fun s hs => by cases hs⟩
  · have hlen : ((ss.take len).map fun s => s.data.toList).length = len := by rw [List.length_map, List.length_take]; omega
    refine ⟨(ss.take len).map fun s => s.data.toList, .inr ⟨x, cap, by rw [hlen], by rw [hlen]; exact hl, hm, fun i hi => ?_⟩, fun s hs => ?_⟩
    · rw [hlen] at hi
      have := hc i (by omega)
      rw [this, List.getElem_map, List.getElem_take, sv_of, List.getD_eq_getElem?_getD, List.getElem?_eq_getElem (by omega)]
      rfl
    · obtain ⟨b, hb, rfl⟩ := List.mem_map.1 hs
      have := hw b (List.mem_of_mem_take hb)
      unfold maxLen at this
      rw [Array.length_toList]
      exact this
theorem walk (v va : Value) (l : List Gr) (ss : List Bs) (a2 a3 : ByteArray) (w : World) (h : Gs w v l) (hg : Goks l) (ha : Sr w va ss) (hb : ∀ s ∈ ss, s.length ≤ 9223372036854775807) (h2 : a2.size ≤ maxLen) (h3 : a3.size ≤ maxLen) :
    Calls Try.prog 6 #[v, va, .string a2, .string a3] w fun e w' => e = .returned (.bool true) ∧ Below w.heap.size w w' := by
  rw [← sv_of a2, ← sv_of a3]
  unfold maxLen at h2 h3
  exact (tells_any v va l ss _ _ w h hg ha hb (by rw [Array.length_toList]; exact h2) (by rw [Array.length_toList]; exact h3)).mono fun e w' ⟨he, hm⟩ => ⟨he, hm.below_of (Nat.le_refl _) (fun _ h => h.elim)⟩

/-! ### THE ROW's STEP: WRITTEN OUT: LEAVE IT -/
set_option maxRecDepth 100000 in
theorem lifted (os : Os) (started : os.Started) (H : Type) (enc : TypeId × Value → H) :
    ReturnsInHanded {} Try.checked os 6 .any (Rows.aclTellsSpec.pre6 enc Try.prog Try.f6 Rows.aclTellsRow.domain false) (Rows.aclTellsSpec.post enc Try.prog Try.f6 false true false false) := by
  refine returnsInHanded_of_change (C := Try.checked) own started (by kernel_rfl) Try.func6
    (ChangeSpec.witness6 (enc := enc) (C := Try.checked) false ⟨#[], #[.slice none 0 0, .slice none 0 0, .string ByteArray.empty, .string ByteArray.empty], []⟩ 8 (by kernel_rfl) (by kernel_rfl) (by kernel_rfl) (by kernel_rfl)) ?_
  intro W base args ds gs before hval0 hW hcnd _
  have hval : ∀ (j : Nat) t v, Try.f6.params[j]? = some t → args[j]? = some v → Value.okWide Try.prog W .any base t v := hval0
  have hW' := hW
  obtain ⟨p, q, hA0, hV, rfl, hfz, hnd⟩ := hW
  have hA : DataW.TrodAll enc Try.prog W 0 (fun _ => true) true Try.f6.params.toList args.toList ds p := hA0
  rw [Try.params6] at hA hval
  obtain ⟨v0, vs0, d0, ds0, p0, q0, hargs, rfl, rfl, h0, r0⟩ := trodAll_cons hA
  obtain ⟨v1, vs1, d1, ds1, p1, q1, rfl, rfl, rfl, h1, r1⟩ := trodAll_cons r0
  obtain ⟨v2, vs2, d2, ds2, p2, q2, rfl, rfl, rfl, h2, r2⟩ := trodAll_cons r1
  obtain ⟨v3, vs3, d3, ds3, p3, q3, rfl, rfl, rfl, h3, r3⟩ := trodAll_cons r2
  obtain ⟨rfl, rfl, rfl⟩ := trodAll_nil r3
  obtain rfl : args = #[v0, v1, v2, v3] := by cases args; simp_all
  obtain ⟨rfl, rfl⟩ := trodVars_none hV
  obtain ⟨a0, len0, cap0, rfl⟩ := okWide_slice Try.underlying22 (hval 0 22 v0 rfl rfl)
  obtain ⟨a1, len1, cap1, rfl⟩ := okWide_slice Try.underlying37 (hval 1 37 v1 rfl rfl)
  have k1 := h1
  have lt1 : ∀ x ∈ p1, x.block < W.heap.size := by obtain ⟨m, hm⟩ := k1; exact DataW.trod_lt m _ _ _ hm
  obtain ⟨sl, w1, x1⟩ : ∃ sl, Sr W (.slice a1 len1 cap1) sl ∧ ∀ s ∈ sl, s.length ≤ 9223372036854775807 := by
    obtain ⟨fuel, hf⟩ := h1
    obtain ⟨ss, hs⟩ := strs_arg Try.underlying37 Try.underlying9 (by kernel_rfl) hf
    exact sr_of hs
  obtain ⟨a2, rfl, rfl, rfl, w2⟩ := open_string Try.underlying9 (hval 2 9 v2 rfl rfl) h2
  obtain ⟨a3, rfl, rfl, rfl, w3⟩ := open_string Try.underlying9 (hval 3 9 v3 rfl rfl) h3
  have k0 := h0
  have lt0 : ∀ x ∈ p0, x.block < W.heap.size := by obtain ⟨m, hm⟩ := k0; exact DataW.trod_lt m _ _ _ hm
  obtain ⟨l, w0, l0⟩ : ∃ l, Gs W (.slice a0 len0 cap0) l ∧ Goks l := by obtain ⟨fuel, hf⟩ := h0; exact grants_of hf
  clear hA0 hval0
  refine (walk _ _ l sl a2 a3 W w0 l0 w1 x1 w2 w3).mono fun e W' ⟨he, bel⟩ => ?_
  subst he
  exact ⟨_, rfl, _, _, _, [], _, [], hW', trodAll_mk1 (shut_bool Try.underlying4 _), (trodAll_cons_mk (Below.trod laidOut (by kernel_rfl) (of_decide_eq_true (by kernel_rfl)) k0 bel lt0) (trodAll_cons_mk (Below.trod laidOut (by kernel_rfl) (of_decide_eq_true (by kernel_rfl)) k1 bel lt1) (trodAll_cons_mk (shut_string Try.underlying9 w2) (trodAll_cons_mk (shut_string Try.underlying9 w3) trodAll_mk0)))), rfl, bel.frame _, fun h => by cases h⟩

theorem over : Rows.aclTellsRow.holds Try.pinned (OpenSpec.ofChange Rows.aclTellsSpec) :=
  OpenClaim.holds_of_wide 6 Try.f6 rfl rfl rfl rfl rfl rfl rfl ⟨rfl, rfl, rfl, rfl, rfl⟩ rfl rfl rfl rfl rfl (by kernel_rfl) Try.func6 (by kernel_rfl)
    (of_decide_eq_true (by kernel_rfl)) (by unfold Func.isWrapper; first | (rw [if_pos (by decide +kernel)]; kernel_rfl) | (rw [if_neg (by decide +kernel)]; exact ⟨rfl, rfl⟩))
    (fun os started H enc _ => lifted os started H enc)

/-- ████ THE STATEMENT ████ -/
theorem proved : Rows.AclTellsSaid :=
  over
#print axioms proved
end Go.Proofs.Ytpbdcjgconopnaa.aclTells
