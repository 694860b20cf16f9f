/-
  A region that draws its order, whose head is calm (its operations read, its calls turn nothing that was there), and whose tail comes in one order: the head in the order of the text, then the tail from every world of the class. No program in sight.
-/
import Derived.Test.YtoceddcppbddnaaCalm
import Derived.StillTail
namespace Go.Proofs.Ytoceddcppbddnaa.Mem
open Go.RowKit
set_option linter.unusedVariables false

section
variable {P : Program} {ops : Array Oper} {md : Region.Mode} {C : World → Prop}
/-- Of every order: the first f operations that come up are of the head, and each leaves a world of the class. -/
def HeadAny (P : Program) (md : Region.Mode) (ops : Array Oper) (C : World → Prop) (n : Nat) (L : Array Bool → Act → Prop) : Nat → Array Bool → Act → Prop
  | 0, b, a => L b a
  | f + 1, b, a => Region.ready md ops b ≠ [] ∧ ∀ i ∈ Region.ready md ops b, i < n ∧ qOp P ops C i (HeadAny P md ops C n L f (b.setIfInBounds i true)) a
theorem HeadAny.any {n g : Nat} {L : Array Bool → Act → Prop} {Q : Exit → Act → World → Prop} (hL : ∀ b a w, C w → L b a → wpAny P md ops Q g b a w) :
    ∀ (f : Nat) (b : Array Bool) (a : Act) (w : World), C w → HeadAny P md ops C n L f b a → wpAny P md ops Q (f + g) b a w
  | 0, b, a, w, hw, h => by rw [Nat.zero_add]; exact hL b a w hw h
  | f + 1, b, a, w, hw, h => by
    rw [Nat.add_right_comm]
    refine ⟨fun h0 => absurd h0 h.1, fun i hi => ?_⟩
    exact wpOp_of_qOp hw (fun a' w' hw' h' => HeadAny.any hL f _ a' w' hw' h') (h.2 i hi).2
theorem HeadAny.first {n i : Nat} {o : Oper} {v : Value} {L : Array Bool → Act → Prop} (ho : ops[i]? = some o) (hsel : ∀ (j : Nat) (o : Oper) cs b, ops[j]? = some o → o.op ≠ .select cs b)
    (hs : Region.sinkB md ops n = true) (hc : Region.chainB md ops n = true) (hn : n < ops.size) (hin : i < n) (hend : ∀ b a, L b a → ∀ j ∈ Region.ready md ops b, n ≤ j) :
    ∀ (f : Nat) (b : Array Bool) (a : Act), HeadInv md ops n b → (∀ j p, ops[j]? = some p → j ≠ i → b.getD j true = false → (∀ e ∈ p.after, Region.binds md e = true → e.on ≠ i) → o.apart ops p = true) →
      i ∈ Region.ready md ops b → YieldsIn P ops C o v a → HeadAny P md ops C n L f (b.setIfInBounds i true) (a.put o.dst v) → HeadAny P md ops C n L (f + 1) b a := by
  intro f
  induction f with
  | zero =>
    intro b a inv _ hr hy H
    have hfree := (mem_ready.1 hr).1
    refine ⟨List.ne_nil_of_mem hr, fun j hj => ?_⟩
    have hjn : j < n := Nat.lt_of_not_le fun h => tail_waits hs hc hn inv _ i rfl hin hfree j h hj
    refine ⟨hjn, ?_⟩
    rcases Nat.decEq j i with hji | hji
    · exact absurd (hend _ _ H j (ready_mono hj hji)) (by omega)
    · subst hji; exact hy.qOp ho H
  | succ f ih =>
    intro b a inv hap hr hy H
    have hfree := (mem_ready.1 hr).1
    refine ⟨List.ne_nil_of_mem hr, fun j hj => ?_⟩
    have hjn : j < n := Nat.lt_of_not_le fun h => tail_waits hs hc hn inv _ i rfl hin hfree j h hj
    refine ⟨hjn, ?_⟩
    rcases Nat.decEq j i with hji | hji
    · obtain ⟨hjf, p, hp, hpa⟩ := mem_ready.1 hj
      have hno : ∀ e ∈ p.after, Region.binds md e = true → e.on ≠ i := fun e he hb hei => by
        have h1 := hpa e he hb
        rw [hei, getD_both hfree] at h1
        cases h1
      have h2 := qOp_put hp (hap j p hp hji hjf hno) (fun cs b => hsel i o cs b ho) (fun cs b => hsel j p cs b hp) hy (H.2 j (ready_mono hj hji)).2
      refine qOp_mono (fun a' ⟨h3, h4⟩ => ih _ a' (inv.set hj hjn) (fun k q hq hki hkf hkn => hap k q hq hki ?_ hkn) (ready_mono hr (Ne.symm hji)) h3 ?_) h2
      · rcases Nat.decEq j k with hjk | hjk
        · rwa [getD_set_ne true hjk] at hkf
        · rw [← hjk]; exact hjf
      · rw [Array.setIfInBounds_comm _ _ hji]
        exact h4
    · subst hji; exact hy.qOp ho H
theorem HeadAny.lex {n g : Nat} {L : Act → Prop} (hsel : Region.noSelect ops = true) (hs : Region.sinkB md ops n = true) (hc : Region.chainB md ops n = true) (hn : n < ops.size) :
    ∀ (l : List Oper) (k : Nat) (b : Array Bool) (a : Act), (∀ j, j < l.length → l[j]? = ops[k + j]?) → k + l.length = n → HeadInv md ops n b → Region.lexHead md ops g l.length k b = true → wpQuiet P ops C L l a →
      HeadAny P md ops C n (fun b' a' => Region.seqB md ops g n b' = true ∧ L a') l.length b a
  | [], k, b, a, _, hk, _, hB, h => by
    obtain rfl : k = n := hk
    exact ⟨hB, h⟩
  | o :: l, k, b, a, hl, hk, inv, hB, h => by
    have ho : ops[k]? = some o := (hl 0 (Nat.succ_pos _)).symm
    rw [List.length_cons, Region.lexHead, Bool.and_eq_true, Bool.and_eq_true] at hB
    obtain ⟨⟨h1, h2⟩, h3⟩ := hB
    rw [List.length_cons] at hk
    have hr : k ∈ Region.ready md ops b := by simpa using h1
    have hq : qOp P ops C k (wpQuiet P ops C L l) a := by unfold qOp; rw [ho]; exact h
    obtain ⟨v, hy, hK⟩ := yieldsIn_of_qOp ho hq
    refine HeadAny.first ho (Region.noSelect_spec hsel) hs hc hn (by omega) (fun b' a' hL => seqB_ready hL.1) l.length b a inv (Region.free_spec ho h2) hr hy ?_
    refine HeadAny.lex hsel hs hc hn l (k + 1) _ _ (fun j hj => ?_) (by omega) (inv.set hr (by omega)) h3 hK
    have := hl (j + 1) (Nat.succ_lt_succ hj)
    rw [show k + 1 + j = k + (j + 1) by omega, ← this]
    rfl
end
/-- The region: its first n operations calm, the rest in order. -/
theorem region_calm_tail {P : Program} {id : Nat} {Q : Exit → Act → World → Prop} {a : Act} {W : World} {l : List Oper} (n : Nat) (hm : P.follows .mixedOrders = true) (hB : Region.lexTailB .any l.toArray n = true)
    (h : wpQuiet P l.toArray (fun w' => ∃ x : After W, w' = x.w) (fun a' => ∀ w', (∃ x : After W, w' = x.w) → wpList P l.toArray Q (l.drop n) a' w') (l.take n) a) : (Code.region id l.toArray true).wp P Q a W := by
  rw [Region.lexTailB, Bool.and_eq_true, Bool.and_eq_true, Bool.and_eq_true, Bool.and_eq_true, decide_eq_true_eq] at hB
  obtain ⟨⟨⟨⟨hsel, hn⟩, hs⟩, hc⟩, hx⟩ := hB
  have hnl : n < l.length := by simpa using hn
  have ht : (l.take n).length = n := by rw [List.length_take]; omega
  have hd : (l.drop n).length = l.toArray.size - n := by simp
  have inv : HeadInv .any l.toArray n (Array.replicate l.toArray.size false) := by
    refine ⟨Array.size_replicate .., fun j p _ hj => ?_, fun t _ htl => getD_in (by rw [Array.size_replicate]; exact htl) (getD_replicate_false _ _)⟩
    rw [getD_replicate_false] at hj; cases hj
  have H := HeadAny.lex (md := .any) (g := l.toArray.size - n) hsel hs hc hn (l.take n) 0 _ a (fun j hj => by rw [ht] at hj; simp [hj]) (by rw [ht]; omega) inv (by rw [ht]; exact hx) h
  rw [ht] at H
  refine wp_region_any hm ?_
  have A := HeadAny.any (Q := Q) (g := l.toArray.size - n) (fun b a' w' hw' hL => by
    have := wpAny_of_seq (md := .any) (Q' := Q) (l.drop n) n b a' w' (fun j => by simp [List.getElem?_drop]) (by rw [hd]; exact hL.1) (hL.2 w' hw')
    rwa [hd] at this) n _ a W.drew ⟨⟨W.drew, (Mod.refl _ W).drew⟩, rfl⟩ H
  rwa [show n + (l.toArray.size - n) = l.toArray.size by omega] at A
/-- The end of the head. -/
theorem calm_tail_end {P : Program} {ops : Array Oper} {W : World} {Q : Act → World → Prop} {a : Act} (h : ∀ w', Mod (fun _ => False) W w' → Q a w') : wpQuiet P ops (fun w' => ∃ x : After W, w' = x.w) (fun a' => ∀ w', (∃ x : After W, w' = x.w) → Q a' w') [] a := calm_end h

/-! ### A head that is calm, one call, and a tail that only reckons, in whatever order -/
/-- Every operation behind number n waits for one from n on. -/
def lateB (md : Region.Mode) (ops : Array Oper) (n : Nat) : Bool :=
  (List.range ops.size).all fun t => decide (t ≤ n) || (List.range t).any fun j => decide (n ≤ j) && Region.waitsFor md ops t j
/-- The head in the order of the text; then number n alone; then the rest in the order of the text. -/
def headB (md : Region.Mode) (ops : Array Oper) (n : Nat) (z : Array Bool) : Nat → Nat → Array Bool → Bool
  | 0, k, b => decide (k = n) && decide (b = z) && decide (Region.ready md ops b = [n]) && Region.lexFrom md ops (ops.size - (n + 1)) (n + 1) (b.setIfInBounds n true)
  | f + 1, k, b => (Region.ready md ops b).contains k && Region.free md ops b k && headB md ops n z f (k + 1) (b.setIfInBounds k true)
def firstN (m n : Nat) : Array Bool := ((List.range m).map fun i => decide (i < n)).toArray
def Region.calmB (ops : Array Oper) (n : Nat) : Bool :=
  Region.noSelect ops && decide (n < ops.size) && Region.sinkB .any ops n && lateB .any ops n && headB .any ops n (firstN ops.size n) n 0 (Array.replicate ops.size false)

section
variable {P : Program} {ops : Array Oper} {md : Region.Mode} {C : World → Prop}
theorem late_waits {n : Nat} {b : Array Bool} (hs : Region.sinkB md ops n = true) (hc : lateB md ops n = true) (hn : n < ops.size) (inv : HeadInv md ops n b) :
    ∀ (d i : Nat), n - i = d → i < n → b.getD i true = false → ∀ t, n ≤ t → t ∉ Region.ready md ops b := by
  intro d
  induction d using Nat.strongRecOn with
  | _ d ih =>
    intro i hd hi hf t ht hr
    obtain ⟨_, p, hp, hpa⟩ := mem_ready.1 hr
    have htl : t < ops.size := (Array.getElem?_eq_some_iff.1 hp).1
    by_cases htn : t = n
    · subst htn
      obtain ⟨j, hj, hj2⟩ := List.any_eq_true.1 (List.all_eq_true.1 hs i (List.mem_range.2 hi))
      rw [Bool.and_eq_true, decide_eq_true_eq] at hj2
      obtain ⟨o, ho, e, he, hb, hei⟩ := Region.waitsFor_spec hj2.2
      have hjt := List.mem_range.1 hj
      by_cases hjn : j = t
      · subst hjn
        obtain rfl : o = p := Option.some.inj (ho.symm.trans hp)
        have h2 := hpa e he hb
        rw [hei, getD_both hf] at h2
        cases h2
      · cases hjl : b.getD j false with
        | true =>
          have h2 := inv.closed j o ho hjl e he hb
          rw [hei, getD_both hf] at h2
          cases h2
        | false => exact ih (t - j) (by omega) j rfl (by omega) (getD_in (by rw [inv.size]; omega) hjl) t (Nat.le_refl _) hr
    · have h1 := List.all_eq_true.1 hc t (List.mem_range.2 htl)
      rw [Bool.or_eq_true, decide_eq_true_eq] at h1
      rcases h1 with h1 | h1
      · omega
      · obtain ⟨j, hj, hj2⟩ := List.any_eq_true.1 h1
        rw [Bool.and_eq_true, decide_eq_true_eq] at hj2
        obtain ⟨o, ho, e, he, hb, hei⟩ := Region.waitsFor_spec hj2.2
        obtain rfl : o = p := Option.some.inj (ho.symm.trans hp)
        have h2 := hpa e he hb
        rw [hei, getD_both (inv.tail j hj2.1 (by have := List.mem_range.1 hj; omega))] at h2
        cases h2
theorem HeadAny.first' {n i : Nat} {o : Oper} {v : Value} {L : Array Bool → Act → Prop} (ho : ops[i]? = some o) (hsel : ∀ (j : Nat) (o : Oper) cs b, ops[j]? = some o → o.op ≠ .select cs b)
    (hs : Region.sinkB md ops n = true) (hc : lateB md ops n = true) (hn : n < ops.size) (hin : i < n) (hend : ∀ b a, L b a → ∀ j ∈ Region.ready md ops b, n ≤ j) :
    ∀ (f : Nat) (b : Array Bool) (a : Act), HeadInv md ops n b → (∀ j p, ops[j]? = some p → j ≠ i → b.getD j true = false → (∀ e ∈ p.after, Region.binds md e = true → e.on ≠ i) → o.apart ops p = true) →
      i ∈ Region.ready md ops b → YieldsIn P ops C o v a → HeadAny P md ops C n L f (b.setIfInBounds i true) (a.put o.dst v) → HeadAny P md ops C n L (f + 1) b a := by
  intro f
  induction f with
  | zero =>
    intro b a inv _ hr hy H
    have hfree := (mem_ready.1 hr).1
    refine ⟨List.ne_nil_of_mem hr, fun j hj => ?_⟩
    have hjn : j < n := Nat.lt_of_not_le fun h => late_waits hs hc hn inv _ i rfl hin hfree j h hj
    refine ⟨hjn, ?_⟩
    rcases Nat.decEq j i with hji | hji
    · exact absurd (hend _ _ H j (ready_mono hj hji)) (by omega)
    · subst hji; exact hy.qOp ho H
  | succ f ih =>
    intro b a inv hap hr hy H
    have hfree := (mem_ready.1 hr).1
    refine ⟨List.ne_nil_of_mem hr, fun j hj => ?_⟩
    have hjn : j < n := Nat.lt_of_not_le fun h => late_waits hs hc hn inv _ i rfl hin hfree j h hj
    refine ⟨hjn, ?_⟩
    rcases Nat.decEq j i with hji | hji
    · obtain ⟨hjf, p, hp, hpa⟩ := mem_ready.1 hj
      have hno : ∀ e ∈ p.after, Region.binds md e = true → e.on ≠ i := fun e he hb hei => by
        have h1 := hpa e he hb
        rw [hei, getD_both hfree] at h1
        cases h1
      have h2 := qOp_put hp (hap j p hp hji hjf hno) (fun cs b => hsel i o cs b ho) (fun cs b => hsel j p cs b hp) hy (H.2 j (ready_mono hj hji)).2
      refine qOp_mono (fun a' ⟨h3, h4⟩ => ih _ a' (inv.set hj hjn) (fun k q hq hki hkf hkn => hap k q hq hki ?_ hkn) (ready_mono hr (Ne.symm hji)) h3 ?_) h2
      · rcases Nat.decEq j k with hjk | hjk
        · rwa [getD_set_ne true hjk] at hkf
        · rw [← hjk]; exact hjf
      · rw [Array.setIfInBounds_comm _ _ hji]
        exact h4
    · subst hji; exact hy.qOp ho H
theorem HeadAny.lex' {n : Nat} {z : Array Bool} {L : Act → Prop} (hsel : Region.noSelect ops = true) (hs : Region.sinkB md ops n = true) (hc : lateB md ops n = true) (hn : n < ops.size) (hz : Region.ready md ops z = [n]) :
    ∀ (l : List Oper) (k : Nat) (b : Array Bool) (a : Act), (∀ j, j < l.length → l[j]? = ops[k + j]?) → k + l.length = n → HeadInv md ops n b → headB md ops n z l.length k b = true → wpQuiet P ops C L l a →
      HeadAny P md ops C n (fun b' a' => b' = z ∧ L a') l.length b a
  | [], k, b, a, _, hk, _, hB, h => by
    rw [List.length_nil, headB, Bool.and_eq_true, Bool.and_eq_true, Bool.and_eq_true, decide_eq_true_eq, decide_eq_true_eq] at hB
    exact ⟨hB.1.1.2, h⟩
  | o :: l, k, b, a, hl, hk, inv, hB, h => by
    have ho : ops[k]? = some o := (hl 0 (Nat.succ_pos _)).symm
    rw [List.length_cons, headB, Bool.and_eq_true, Bool.and_eq_true] at hB
    obtain ⟨⟨h1, h2⟩, h3⟩ := hB
    rw [List.length_cons] at hk
    have hr : k ∈ Region.ready md ops b := by simpa using h1
    have hq : qOp P ops C k (wpQuiet P ops C L l) a := by unfold qOp; rw [ho]; exact h
    obtain ⟨v, hy, hK⟩ := yieldsIn_of_qOp ho hq
    refine HeadAny.first' ho (Region.noSelect_spec hsel) hs hc hn (by omega) (fun b' a' hL j hj => ?_) l.length b a inv (Region.free_spec ho h2) hr hy ?_
    · rw [hL.1, hz] at hj
      have : j = n := by simpa using hj
      omega
    · refine HeadAny.lex' hsel hs hc hn hz l (k + 1) _ _ (fun j hj => ?_) (by omega) (inv.set hr (by omega)) h3 hK
      have := hl (j + 1) (Nat.succ_lt_succ hj)
      rw [show k + 1 + j = k + (j + 1) by omega, ← this]
      rfl
theorem headB_end {n : Nat} {z : Array Bool} : ∀ (f k : Nat) (b : Array Bool), headB md ops n z f k b = true → Region.ready md ops z = [n] ∧ Region.lexFrom md ops (ops.size - (n + 1)) (n + 1) (z.setIfInBounds n true) = true
  | 0, k, b, h => by
    rw [headB, Bool.and_eq_true, Bool.and_eq_true, Bool.and_eq_true, decide_eq_true_eq, decide_eq_true_eq, decide_eq_true_eq] at h
    obtain ⟨⟨⟨_, rfl⟩, h1⟩, h2⟩ := h
    exact ⟨h1, h2⟩
  | f + 1, k, b, h => by
    rw [headB, Bool.and_eq_true] at h
    exact headB_end f (k + 1) _ h.2
end
/-- What is left behind the call. -/
def Rest (P : Program) (l : List Oper) (n : Nat) (Q : Exit → Act → World → Prop) (a : Act) (w : World) : Prop :=
  wpQuiet P l.toArray (fun x => x = w) (fun a' => ∀ x, x = w → Q .normal a' x) (l.drop (n + 1)) a
/-- The region: its first n operations calm, then a call (or whatever else), then operations that only reckon. -/
theorem region_calm_call {P : Program} {id : Nat} {Q : Exit → Act → World → Prop} {a : Act} {W : World} {l : List Oper} (n : Nat) (o : Oper) (ho : l[n]? = some o) (hm : P.follows .mixedOrders = true) (hB : Region.calmB l.toArray n = true)
    (h : wpQuiet P l.toArray (fun w' => ∃ x : After W, w' = x.w) (fun a' => ∀ w', (∃ x : After W, w' = x.w) → Region.wanted o (yielded l.toArray a'.tmps) = true ∧
      ∀ K : Act → World → Prop, (∀ a2 w2, Rest P l n Q a2 w2 → K a2 w2) → o.upon P a' K Q ((execOp a'.eval o).run P w')) (l.take n) a) : (Code.region id l.toArray true).wp P Q a W := by
  rw [Region.calmB, Bool.and_eq_true, Bool.and_eq_true, Bool.and_eq_true, Bool.and_eq_true, decide_eq_true_eq] at hB
  obtain ⟨⟨⟨⟨hsel, hn⟩, hs⟩, hc⟩, hx⟩ := hB
  have hnl : n < l.length := by simpa using hn
  have ht : (l.take n).length = n := by rw [List.length_take]; omega
  obtain ⟨hz, hlex⟩ := headB_end _ _ _ hx
  have inv : HeadInv .any l.toArray n (Array.replicate l.toArray.size false) := by
    refine ⟨Array.size_replicate .., fun j p _ hj => ?_, fun t _ htl => getD_in (by rw [Array.size_replicate]; exact htl) (getD_replicate_false _ _)⟩
    rw [getD_replicate_false] at hj; cases hj
  have H := HeadAny.lex' (md := .any) hsel hs hc hn hz (l.take n) 0 _ a (fun j hj => by rw [ht] at hj; simp [hj]) (by rw [ht]; omega) inv (by rw [ht]; exact hx) h
  rw [ht] at H
  refine wp_region_any hm ?_
  have A := HeadAny.any (Q := Q) (g := l.toArray.size - n) (fun b a' w' hw' hL => by
    obtain ⟨rfl, hL⟩ := hL
    obtain ⟨g, hg⟩ : ∃ g, l.toArray.size - n = g + 1 := ⟨l.toArray.size - n - 1, by omega⟩
    have hg' : l.toArray.size - (n + 1) = g := by omega
    rw [hg]
    refine ⟨fun h0 => absurd h0 (by rw [hz]; simp), fun i hi => ?_⟩
    rw [hz] at hi
    obtain rfl : i = n := by simpa using hi
    have ho' : l.toArray[i]? = some o := by simpa using ho
    obtain ⟨h1, h2⟩ := hL w' hw'
    unfold wpOp
    rw [ho']
    simp only [h1, if_true]
    left
    refine h2 _ (fun a2 w2 hr => ?_)
    have hd : (l.drop (i + 1)).length = g := by rw [List.length_drop]; simp at hg'; omega
    have := wpAnyQ_lex (C := fun x => x = w2) (md := .any) hsel (l.drop (i + 1)) (i + 1) ((firstN l.toArray.size i).setIfInBounds i true) a2 (fun j => by simp [List.getElem?_drop]) (by rw [hd, ← hg']; exact hlex) hr
    rw [hd] at this
    exact wpAny_of_quiet (Q := fun a' => ∀ x, x = w2 → Q .normal a' x) (fun _ x hx h => h x hx) _ _ _ _ rfl this) n _ a W.drew ⟨⟨W.drew, (Mod.refl _ W).drew⟩, rfl⟩ H
  rwa [show n + (l.toArray.size - n) = l.toArray.size by omega] at A
end Go.Proofs.Ytoceddcppbddnaa.Mem
