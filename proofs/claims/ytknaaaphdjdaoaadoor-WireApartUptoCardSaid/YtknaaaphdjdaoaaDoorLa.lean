/-
  WireApart: whatever two letters come in, of bulk at most 1048576 together: true.
-/
import Derived.Test.YtknaaaphdjdaoaaDoorCards
import Derived.Test.YtknaaaphdjdaoaaDoorTie
import Derived.WalkKit
import Derived.ProofKit
import Derived.OpenShut
import Derived.ShutString
import Derived.ChangeOld
import Derived.Below
import Derived.Deep.DeepHandedRow
import Derived.Lay
import Derived.SevenTiedAt
import Derived.Test.YtknaaaphdjdaoaaDoorTa
import Derived.Test.YtknaaaphdjdaoaaDoorWa
import Derived.Test.YtknaaaphdjdaoaaDoorArgs
import Derived.Test.YtknaaaphdjdaoaaDoorAl
namespace Go.Proofs.YtknaaaphdjdaoaaDoor.wireApart
open Go.ChangeShapes Go.WideShapes Go.ChangeAt Go.RowKit Mem
open Go.ChangeMaps (open_string shut_string)
set_option linter.unusedVariables false
set_option linter.unusedSimpArgs false

theorem own : ownKnob Tryd.prog.godebug = none := by kernel_rfl
theorem laidOut : laidOutB Tryd.prog = true := by kernel_rfl
theorem int_bounds {n : Int} (h : (Lit.int .i64 n).wf = true) : -9223372036854775808 ≤ n ∧ n ≤ 9223372036854775807 := by
  have h1 : IntKind.i64.min ≤ n ∧ n ≤ IntKind.i64.max := by simpa [Lit.wf] using h
  have e1 : IntKind.i64.min = -9223372036854775808 := by decide
  have e2 : IntKind.i64.max = 9223372036854775807 := by decide
  omega
theorem one_le {H : Type} (d : DataW H) : 1 ≤ Rows.uptoBulk d := by
  cases d with
  | lit l => cases l <;> simp [Rows.uptoBulk]
  | nil => simp [Rows.uptoBulk]
  | ptr d => simp [Rows.uptoBulk]
  | slice elems spare => simp [Rows.uptoBulk]
  | agg parts => simp [Rows.uptoBulk]
  | iface t d => simp [Rows.uptoBulk]
  | map entries => simp [Rows.uptoBulk]
  | held h => simp [Rows.uptoBulk]
theorem length_le {H : Type} (l : List (DataW H)) : l.length ≤ Rows.uptoBulkAll l := by
  induction l with
  | nil => simp [Rows.uptoBulkAll]
  | cons x r ih => have := one_le x; simp only [Rows.uptoBulkAll, List.length_cons]; omega
set_option maxRecDepth 100000 in
/-- What the walk gives, for every argument. -/
theorem contract (H : Type) (enc : TypeId × Value → H) (W : World) (base : Nat) (args : Array Value) (ds gs : List (DataW H)) (before : List MemPlace)
    (hval0 : ∀ (j : Nat) t v, Tryd.f5.params[j]? = some t → args[j]? = some v → Value.okWide Tryd.prog W .any base t v)
    (hW : DataW.Whole enc Tryd.prog Tryd.f5.params.toList Rows.wireApartSpec.vars false W args.toList ds gs before) (hk : Rows.uptoSmall H (ds ++ gs) = true) (hT : ErrT W) :
    Calls Tryd.prog 5 args W fun e W' => ∃ v, e = .returned v ∧ Rows.wireApartSpec.post enc Tryd.prog Tryd.f5 false true false false W args v W' := by
  have hval : ∀ (j : Nat) t v, Tryd.f5.params[j]? = some t → args[j]? = some v → Value.okWide Tryd.prog W .any base t v := hval0
  have hW' := hW
  obtain ⟨p, q, hA0, hV, rfl, hfz, hnd⟩ := hW
  have hA : DataW.TrodAll enc Tryd.prog W 0 (fun _ => true) true Tryd.f5.params.toList args.toList ds p := hA0
  rw [Tryd.params5] at hA hval
  obtain ⟨v0, vs0, d0, ds0, p0, q0, hargs, rfl, rfl, h0, r0'⟩ := trodAll_cons hA
  obtain ⟨v1, vs1, d1, ds1, p1, q1, rfl, rfl, rfl, h1, r1'⟩ := trodAll_cons r0'
  obtain ⟨rfl, rfl, rfl⟩ := trodAll_nil r1'
  obtain rfl : args = #[v0, v1] := by cases args; simp_all
  obtain ⟨rfl, rfl⟩ := trodVars_none hV
  have hb := of_decide_eq_true hk
  simp only [List.cons_append, List.nil_append, List.append_nil, Rows.uptoBulkAll] at hb
  obtain ⟨cs0, rfl, _⟩ := okWide_struct Tryd.underlying28 (hval 0 28 v0 rfl rfl)
  have kk0 := h0
  have lt0 : ∀ x ∈ p0, x.block < W.heap.size := by obtain ⟨m, hm⟩ := kk0; exact DataW.trod_lt m _ _ _ hm
  obtain ⟨m0, ev0, nv0, dv0, hc0, l0, g0⟩ : ∃ (m : Lt) (ev nv dv : Value), cs0 = #[.int .i64 m.kd, .int .i64 m.fr, .int .i64 m.tt, .int .i64 m.tm, .int .i64 m.ix, .int .i64 m.lt, .int .i64 m.cm, .int .i64 m.rd, .bool m.ok, ev, .int .i64 m.si, .int .i64 m.st, nv, dv] ∧ LV W ev nv dv m ∧ (m.es.length ≤ 1048576 ∧ m.sd.length ≤ 1048576 ∧ m.sn.length ≤ 1048576 ∧ ∀ e ∈ m.es, e.dt.length ≤ 1048576 ∧ e.nd.length ≤ 1048576) := by
    obtain ⟨fuel, hf⟩ := h0
    obtain ⟨m, ev, nv, dv, hc, hl, b1, b2, b3, b4⟩ := letter_in (x := (d0, p0)) hf
    have hb0 : Rows.uptoBulk d0 ≤ 1048576 := by omega
    refine ⟨m, ev, nv, dv, ?_, hl, Nat.le_trans b1 hb0, Nat.le_trans b2 hb0, Nat.le_trans b3 hb0, fun e he => ⟨Nat.le_trans (b4 e he).1 hb0, Nat.le_trans (b4 e he).2 hb0⟩⟩
    apply Array.toList_inj.1
    simpa [Value.cells] using hc
  subst hc0
  obtain ⟨cs1, rfl, _⟩ := okWide_struct Tryd.underlying28 (hval 1 28 v1 rfl rfl)
  have kk1 := h1
  have lt1 : ∀ x ∈ p1, x.block < W.heap.size := by obtain ⟨m, hm⟩ := kk1; exact DataW.trod_lt m _ _ _ hm
  obtain ⟨m1, ev1, nv1, dv1, hc1, l1, g1⟩ : ∃ (m : Lt) (ev nv dv : Value), cs1 = #[.int .i64 m.kd, .int .i64 m.fr, .int .i64 m.tt, .int .i64 m.tm, .int .i64 m.ix, .int .i64 m.lt, .int .i64 m.cm, .int .i64 m.rd, .bool m.ok, ev, .int .i64 m.si, .int .i64 m.st, nv, dv] ∧ LV W ev nv dv m ∧ (m.es.length ≤ 1048576 ∧ m.sd.length ≤ 1048576 ∧ m.sn.length ≤ 1048576 ∧ ∀ e ∈ m.es, e.dt.length ≤ 1048576 ∧ e.nd.length ≤ 1048576) := by
    obtain ⟨fuel, hf⟩ := h1
    obtain ⟨m, ev, nv, dv, hc, hl, b1, b2, b3, b4⟩ := letter_in (x := (d1, p1)) hf
    have hb0 : Rows.uptoBulk d1 ≤ 1048576 := by omega
    refine ⟨m, ev, nv, dv, ?_, hl, Nat.le_trans b1 hb0, Nat.le_trans b2 hb0, Nat.le_trans b3 hb0, fun e he => ⟨Nat.le_trans (b4 e he).1 hb0, Nat.le_trans (b4 e he).2 hb0⟩⟩
    apply Array.toList_inj.1
    simpa [Value.cells] using hc
  subst hc1
  clear hA0 hval0
  have hcall : Calls Tryd.prog 5 #[lval m0 ev0 nv0 dv0, lval m1 ev1 nv1 dv1] W fun e W' => e = .returned (.bool true) ∧ Mod (fun _ => False) W W' := by exact wireApart_walk m0 m1 ev0 nv0 dv0 ev1 nv1 dv1 W l0 l1 g0 g1 hT
  refine hcall.mono fun e W' ⟨he, hmod⟩ => ?_
  subst he
  have bel : Below W.heap.size W W' := hmod.below_of (Nat.le_refl _) (fun _ h => h.elim)
  exact ⟨_, rfl, _, _, _, [], _, [], hW', trodAll_mk1 (shut_bool Tryd.underlying4 _), (trodAll_cons_mk (Below.trod laidOut (by kernel_rfl) (of_decide_eq_true (by kernel_rfl)) kk0 bel lt0) (trodAll_cons_mk (Below.trod laidOut (by kernel_rfl) (of_decide_eq_true (by kernel_rfl)) kk1 bel lt1) trodAll_mk0)), rfl, bel.frame _, fun h => by cases h⟩

theorem reads (os : Os) {H : Type} (enc : TypeId × Value → H) : ∃ places, DataW.whole enc Tryd.prog ((laidWorld os).forCall (fun _ _ => 0) ⟨#[], #[.agg #[.int .i64 0, .int .i64 0, .int .i64 0, .int .i64 0, .int .i64 0, .int .i64 0, .int .i64 0, .int .i64 0, .bool false, .slice none 0 0, .int .i64 0, .int .i64 0, .slice none 0 0, .slice none 0 0], .agg #[.int .i64 0, .int .i64 0, .int .i64 0, .int .i64 0, .int .i64 0, .int .i64 0, .int .i64 0, .int .i64 0, .bool false, .slice none 0 0, .int .i64 0, .int .i64 0, .slice none 0 0, .slice none 0 0]], []⟩).memory Tryd.f5.params.toList Rows.wireApartSpec.vars false (#[.agg #[.int .i64 0, .int .i64 0, .int .i64 0, .int .i64 0, .int .i64 0, .int .i64 0, .int .i64 0, .int .i64 0, .bool false, .slice none 0 0, .int .i64 0, .int .i64 0, .slice none 0 0, .slice none 0 0], .agg #[.int .i64 0, .int .i64 0, .int .i64 0, .int .i64 0, .int .i64 0, .int .i64 0, .int .i64 0, .int .i64 0, .bool false, .slice none 0 0, .int .i64 0, .int .i64 0, .slice none 0 0, .slice none 0 0]] : Array Value).toList 8 = some ([.agg [.lit (.int .i64 0), .lit (.int .i64 0), .lit (.int .i64 0), .lit (.int .i64 0), .lit (.int .i64 0), .lit (.int .i64 0), .lit (.int .i64 0), .lit (.int .i64 0), .lit (.bool false), .nil, .agg [.lit (.int .i64 0), .lit (.int .i64 0), .nil, .nil]], .agg [.lit (.int .i64 0), .lit (.int .i64 0), .lit (.int .i64 0), .lit (.int .i64 0), .lit (.int .i64 0), .lit (.int .i64 0), .lit (.int .i64 0), .lit (.int .i64 0), .lit (.bool false), .nil, .agg [.lit (.int .i64 0), .lit (.int .i64 0), .nil, .nil]]], [], places) :=
  ⟨[], by kernel_rfl⟩
set_option maxRecDepth 100000 in
theorem lifted (os : Os) (started : os.Started) (H : Type) (enc : TypeId × Value → H) (F : Stop.Interp) :
    ReturnsInHanded {} Tryd.checked os 5 .any ((Rows.OpenSpec.upto Rows.wireApartSpec).preRow enc Tryd.prog Tryd.f5 Rows.wireApartUptoRow.domain false Rows.wireApartUptoRow.laid) (((Rows.OpenSpec.upto Rows.wireApartSpec).at F).post enc Tryd.prog Tryd.f5 false true false false) := by
  obtain ⟨places, hx⟩ := reads os enc
  refine returnsInHanded_of_row (C := Tryd.checked) (s := Rows.OpenSpec.upto Rows.wireApartSpec) own started (by kernel_rfl) Tryd.func5
    (witness_row_at (enc := enc) (C := Tryd.checked) false (laidWorld os) #[.agg #[.int .i64 0, .int .i64 0, .int .i64 0, .int .i64 0, .int .i64 0, .int .i64 0, .int .i64 0, .int .i64 0, .bool false, .slice none 0 0, .int .i64 0, .int .i64 0, .slice none 0 0, .slice none 0 0], .agg #[.int .i64 0, .int .i64 0, .int .i64 0, .int .i64 0, .int .i64 0, .int .i64 0, .int .i64 0, .int .i64 0, .bool false, .slice none 0 0, .int .i64 0, .int .i64 0, .slice none 0 0, .slice none 0 0]] rfl (by kernel_rfl) (by kernel_rfl) (by kernel_rfl)
      (OpenSpec.preRow_of_cond 8 hx (by kernel_rfl) (fun k hk => by cases hk; kernel_rfl) (by kernel_rfl) (laidWorld_met os _))) ?_
  intro W base args ds gs before hval hW _ hcond _ hL hsh _
  exact contract H enc W base args ds gs before hval hW (hcond _ rfl) (errT_laid hL)
theorem saidUpto : Rows.WireApartUptoSaid :=
  OpenClaim.holds_of_cond 5 Tryd.f5 rfl rfl rfl rfl rfl rfl rfl ⟨rfl, rfl, rfl, rfl, rfl⟩ rfl rfl rfl rfl rfl (by kernel_rfl) Tryd.func5 (by kernel_rfl)
    (of_decide_eq_true (by kernel_rfl)) (by unfold Func.isWrapper; first | (rw [if_pos (by decide +kernel)]; kernel_rfl) | (rw [if_neg (by decide +kernel)]; exact ⟨rfl, rfl⟩))
    (fun os started H enc _ F => by rw [OpenClaim.pre_eq_preRow]; exact lifted os started H enc F)
/-- No parameter wants a stand-in; the program's own looks are off: what the card asks. -/
theorem plain (f : FuncId) (fn : Func) (hf : Tryd.pinned.checked.prog.funcNamed "scriptorium/scriptoriumlaw17.WireApart" = some f) (hfn : Tryd.pinned.checked.prog.funcs[f]? = some fn) :
    true = Tryd.pinned.checked.prog.looks [] ∧ ∀ (j : Nat) t, fn.params[j]? = some t → Tryd.pinned.checked.prog.wantsStandIn t = false := by
  obtain rfl : f = 5 := Option.some.inj ((show Tryd.prog.funcNamed "scriptorium/scriptoriumlaw17.WireApart" = some 5 by kernel_rfl).symm.trans hf) |>.symm
  obtain rfl : fn = Tryd.f5 := (Option.some.inj (Tryd.func5.symm.trans hfn)).symm
  refine ⟨by kernel_rfl, fun j t ht => ?_⟩
  rw [Tryd.params5] at ht
  have hmem : t ∈ [28, 28] := by
    have := Array.mem_of_getElem? ht
    simp at this ⊢
    omega
  have hall : ([28, 28].all fun u => !Tryd.prog.wantsStandIn u) = true := by kernel_rfl
  exact (show Tryd.prog.wantsStandIn t = false by simpa using List.all_eq_true.1 hall t hmem)
/-- ████ THE STATEMENT: the second form's card ████ -/
theorem proved : Rows.WireApartUptoCardSaid :=
  Claim7.holds_tied_plain_at .later [] [.handle] true _ _ saidUpto (fun _ h => by cases h) (by kernel_rfl) (fun _ h => by cases h) wireApartUpto_row_tie rfl ⟨rfl, rfl⟩ (by kernel_rfl) rfl plain (by kernel_rfl)
#print axioms proved
end Go.Proofs.YtknaaaphdjdaoaaDoor.wireApart
