/-
  The document's net in memory.
-/
import Derived.Test.YtjhlabpnjkepbaaNh
namespace Go.Proofs.Ytjhlabpnjkepbaa
open Go.RowKit Mem
set_option linter.unusedVariables false

def lcells (l : Let) : List Value := [.int .i64 l.f, .int .i64 l.t, .string ⟨l.b.toArray⟩]
def rcells (L : List Let) : List Value := L.flatMap lcells
theorem rcells_len (L : List Let) : (rcells L).length = L.length * 3 := by
  induction L with
  | nil => rfl
  | cons l L ih => simp only [rcells, List.flatMap_cons, List.length_append, List.length_cons] at ih ⊢; rw [ih]; simp [lcells]; omega
theorem rcells_append (L M : List Let) : rcells (L ++ M) = rcells L ++ rcells M := by simp [rcells]
theorem rcells_take (L : List Let) : ∀ i, (rcells L).take (i * 3) = rcells (L.take i) := by
  induction L with
  | nil => intro i; simp [rcells]
  | cons l L ih =>
    intro i
    cases i with
    | zero => simp [rcells]
    | succ i =>
      rw [show (i + 1) * 3 = i * 3 + 1 + 1 + 1 from by omega]
      have := ih i
      simp only [rcells, List.flatMap_cons, lcells, List.cons_append, List.nil_append, List.take_succ_cons] at this ⊢
      rw [this]
theorem rcells_drop (L : List Let) : ∀ i, (rcells L).drop (i * 3) = rcells (L.drop i) := by
  induction L with
  | nil => intro i; simp [rcells]
  | cons l L ih =>
    intro i
    cases i with
    | zero => simp [rcells]
    | succ i =>
      rw [show (i + 1) * 3 = i * 3 + 1 + 1 + 1 from by omega]
      have := ih i
      simp only [rcells, List.flatMap_cons, lcells, List.cons_append, List.nil_append, List.drop_succ_cons] at this ⊢
      rw [this]
theorem rcells_one (L : List Let) : ∀ u ∈ rcells L, u.oneCell' = true := by
  intro u hu
  simp only [rcells, List.mem_flatMap, lcells, List.mem_cons, List.not_mem_nil, or_false] at hu
  obtain ⟨l, _, rfl | rfl | rfl⟩ := hu <;> rfl
theorem rcells_get (L : List Let) (i : Nat) (hi : i < L.length) : (rcells L)[i * 3]? = some (.int .i64 L[i].f) ∧ (rcells L)[i * 3 + 1]? = some (.int .i64 L[i].t) ∧ (rcells L)[i * 3 + 2]? = some (.string ⟨L[i].b.toArray⟩) := by
  have h := rcells_drop L i
  rw [List.drop_eq_getElem_cons hi, rcells, rcells, List.flatMap_cons] at h
  refine ⟨?_, ?_, ?_⟩
  · have := congrArg (·[0]?) h; simpa [List.getElem?_drop, lcells, rcells] using this
  · have := congrArg (·[1]?) h; simpa [List.getElem?_drop, lcells, rcells] using this
  · have := congrArg (·[2]?) h; simpa [List.getElem?_drop, lcells, rcells] using this

/-- The document's net at block g. -/
structure RefAt (B : Nat) (w : World) (g : Nat) (v : Value) (L : List Let) (s : Nat) : Prop where
  blk : Blk w g #[v, .int .u64 s] 30
  own : w.ownsRow B 39 3 v L.length (rcells L)
  base : B ≤ g
  sides : s < 18446744073709551616
  few : L.length ≤ 200
theorem RefAt.mod {S : Nat → Prop} {B g s : Nat} {w w' : World} {v : Value} {L : List Let} (h : RefAt B w g v L s) (hm : Mod S w w') (hg : ¬ S g) (hv : ∀ a, v.ownBlock = some a → ¬ S a) : RefAt B w' g v L s :=
  ⟨h.blk.mod hm hg, own_mod h.own hm hv, h.base, h.sides, h.few⟩
theorem RefAt.new {S : Nat → Prop} {B g s : Nat} {w w' : World} {v : Value} {L : List Let} (h : RefAt B w g v L s) (hm : Mod S w w') (hS : ∀ i, S i → w.heap.size ≤ i) : RefAt B w' g v L s :=
  h.mod hm (fun k => by have := h.blk.lt; have := hS _ k; omega) (fun a ha k => by have := (own_lt h.own ha).2; have := hS _ k; omega)
theorem RefAt.slice {B g s : Nat} {w : World} {v : Value} {L : List Let} (h : RefAt B w g v L s) : ∃ A c, v = .slice A L.length c := by
  rcases own_cases h.own with ⟨rfl, hn, _⟩ | ⟨g, cap, cur, rfl, _⟩
  · exact ⟨none, 0, by rw [hn]⟩
  · exact ⟨_, cap, rfl⟩
theorem RefAt.cells {B g s : Nat} {w : World} {v : Value} {L : List Let} (h : RefAt B w g v L s) : w.cell? ⟨g, 0, none⟩ = some v ∧ w.cell? ⟨g, 1, none⟩ = some (.int .u64 s) ∧ w.frozen? ⟨g, 0, none⟩ = false ∧ w.frozen? ⟨g, 1, none⟩ = false :=
  ⟨h.blk.cell 0, h.blk.cell 1, h.blk.frozen 0, h.blk.frozen 1⟩
/-- The document's net turned in its place. -/
def RKept (B g : Nat) (v : Value) (L' : List Let) (s' : Nat) (w w' : World) : Prop :=
  ∃ v', RefAt B w' g v' L' s' ∧ (∀ a, v'.ownBlock = some a → v.ownBlock = some a ∨ w.heap.size ≤ a) ∧ Mod (fun b => b = g ∨ v.ownBlock = some b) w w'
theorem RKept.same {B g s : Nat} {v : Value} {L : List Let} {w w' : World} (h : RefAt B w g v L s) (hm : Mod (fun _ => False) w w') : RKept B g v L s w w' :=
  ⟨v, h.new hm (fun _ h => h.elim), fun a ha => .inl ha, hm.mono (fun _ h => h.elim)⟩
theorem RKept.from_ {B g s : Nat} {v : Value} {L : List Let} {w0 w w' : World} (h : RKept B g v L s w w') (hm : Mod (fun _ => False) w0 w) : RKept B g v L s w0 w' := by
  obtain ⟨v', h1, h2, h3⟩ := h
  refine ⟨v', h1, fun a ha => ?_, (hm.mono (fun _ h => h.elim)).trans h3 (fun i hi => .inl hi)⟩
  rcases h2 a ha with h | h
  · exact .inl h
  · exact .inr (by have := hm.size; omega)
/-- The new row laid into it. -/
theorem put_ref {B g s : Nat} {v v1 : Value} {L1 : List Let} {w w1 : World} (hg : g < w.heap.size) (hm : Mod (fun b => b = g ∨ v.ownBlock = some b) w w1) (hb : Blk w1 g #[v, .int .u64 s] 30) (ho : w1.ownsRow B 39 3 v1 L1.length (rcells L1))
    (hv : ∀ a, v1.ownBlock = some a → v.ownBlock = some a ∨ w.heap.size ≤ a) (hB : B ≤ g) (hs : s < 18446744073709551616) (hn : L1.length ≤ 200) : RKept B g v L1 s w (w1.setCell ⟨g, 0, none⟩ v1) := by
  have hset : Mod (· = g) w1 (w1.setCell ⟨g, 0, none⟩ v1) := (Mod.refl (· = g) w1).setCell (p := ⟨g, 0, none⟩) (.inl rfl) _
  have hgv : ∀ a, v1.ownBlock = some a → ¬ a = g := fun a ha => by obtain ⟨cur, hc⟩ := own_type ho ha; exact Blk.ne hc hb (by decide)
  exact ⟨v1, ⟨hb.set 0 v1, own_mod ho hset hgv, hB, hs, hn⟩, hv, hm.trans (hset.mono (T := fun b => b = g ∨ v.ownBlock = some b) (fun i hi => .inl hi)) (fun i hi => .inl hi)⟩

theorem info39 : (Try.prog.info? 39).map (fun i => (i.zero, i.size, i.bytes)) = some (some (.agg #[.int .i64 0, .int .i64 0, .string ⟨#[]⟩]), 3, 32) := by kernel_rfl
/-- Letters appended to a row of the document's. -/
theorem app_ref (B n : Nat) (v : Value) (xs : List Value) (w : World) (hown : w.ownsRow B 39 3 v n xs) (ad : Addr) (m c : Nat) (news : List Value) (hn : n + m ≤ 1000) (hl : news.length = m * 3) (hnews : ∀ j u, news[j]? = some u → w.cell? (ad.add j) = some u) (h1 : ∀ u ∈ news, u.oneCell' = true) (hB : B ≤ w.heap.size) :
    ∃ A k w', (Builtin.append_ #[27, 27] 27 #[v, .slice (some ad) m c]).run Try.prog w = .ok (.slice A (n + m) k) w' ∧ w'.ownsRow B 39 3 (.slice A (n + m) k) (n + m) (xs ++ news) ∧ Mod (fun b => v.ownBlock = some b) w w' ∧ (∀ a, (Value.slice A (n + m) k).ownBlock = some a → v.ownBlock = some a ∨ w.heap.size ≤ a) ∧ (v ≠ .slice none 0 0 → ∃ g, A = some ⟨g, 0, none⟩) := by
  obtain ⟨i39, hi39, hz0, hz1, hz2⟩ := info_parts info39
  obtain ⟨v', w', hr, ho, hg, hnil, hor⟩ := run_append_own_at (P := Try.prog) w B 27 27 39 i39 _ 3 32 Try.underlying27 hi39 hz0 hz1 hz2 rfl (by omega) v n xs hown ad m c news hl hnews h1 (by unfold maxLen; omega) (by omega) hB
  obtain ⟨A, k, rfl, hsome⟩ : ∃ A k, v' = .slice A (n + m) k ∧ (v ≠ .slice none 0 0 → ∃ g, A = some ⟨g, 0, none⟩) := by
    rcases own_cases ho with ⟨rfl, hn, _⟩ | ⟨g, cap, cur, rfl, _⟩
    · exact ⟨none, 0, by rw [hn], fun hv => absurd (hnil.1 rfl).1 hv⟩
    · exact ⟨_, cap, rfl, fun _ => ⟨g, rfl⟩⟩
  refine ⟨A, k, w', hr, ho, (Mod.refl _ w).grown hg (fun k hk => .inl hk), fun b hb => ?_, hsome⟩
  rcases hor with h | h
  · exact .inl (by rw [← h]; exact hb)
  · rw [h] at hb
    right
    injection hb with hb
    omega

def nodeOk (n : Int) : Bool := decide (0 ≤ n ∧ n ≤ 63)
theorem node_any (n : Int) (w : World) : Calls Try.prog 27 #[.int .i64 n] w fun e w' => e = .returned (.bool (nodeOk n)) ∧ w = w' := by
  unfold nodeOk
  by_cases h0 : 0 ≤ n
  · by_cases h1 : n ≤ 63
    · go_enter Try.func27, Try.ntmps27
      go_wp2
      go_ret
      exact ⟨by simp [h0, h1], rfl⟩
    · go_enter Try.func27, Try.ntmps27
      go_wp2
      go_ret
      exact ⟨by simp [h1], rfl⟩
  · go_enter Try.func27, Try.ntmps27
    go_wp2
    go_ret
    exact ⟨ret_bool (by rw [decide_eq_false (show ¬ 0 ≤ n by omega)]; rfl), rfl⟩

def hasOk (L : List Let) (i : Int) : Bool := decide (0 ≤ i ∧ i < L.length)
theorem has_any (B g s : Nat) (v : Value) (L : List Let) (i : Int) (w : World) (h : RefAt B w g v L s) : Calls Try.prog 29 #[.pointer (some ⟨g, 0, none⟩), .int .i64 i] w fun e w' => e = .returned (.bool (hasOk L i)) ∧ w = w' := by
  obtain ⟨A, c, rfl⟩ := h.slice
  obtain ⟨c0, c1, f0, f1⟩ := h.cells
  clear h
  unfold hasOk
  by_cases h0 : 0 ≤ i
  · by_cases h1 : i < L.length
    · go_enter Try.func29, Try.ntmps29
      go_wp2
      go_ret
      exact ⟨by simp [h0, h1], rfl⟩
    · go_enter Try.func29, Try.ntmps29
      go_wp2
      go_ret
      exact ⟨by simp [h1], rfl⟩
  · go_enter Try.func29, Try.ntmps29
    go_wp2
    go_ret
    exact ⟨ret_bool (by rw [decide_eq_false (show ¬ 0 ≤ i by omega)]; rfl), rfl⟩

/-- The letter of a number, or none. -/
def rl (L : List Let) (i : Int) : Let := if hasOk L i then (L[i.toNat]?).getD ⟨0, 0, []⟩ else ⟨0, 0, []⟩
def lval (l : Let) : Value := .agg #[.int .i64 l.f, .int .i64 l.t, .string ⟨l.b.toArray⟩]
theorem rlook_any (B g s : Nat) (v : Value) (L : List Let) (i : Int) (w : World) (h : RefAt B w g v L s) : Calls Try.prog 23 #[.pointer (some ⟨g, 0, none⟩), .int .i64 i] w fun e w' => e = .returned (.tuple #[lval (rl L i), .bool (hasOk L i)]) ∧ Mod (fun _ => False) w w' := by
  have hhas := has_any B g s v L i (w.alloc (.cells #[.int .i64 0, .int .i64 0, .string ⟨#[]⟩] 39)) (h.new ((Mod.refl (fun _ => False) w).alloc _) (fun _ h => h.elim))
  obtain ⟨c0, c1, f0, f1⟩ := h.cells
  by_cases hok : hasOk L i = true
  · have hin : 0 ≤ i ∧ i < L.length := of_decide_eq_true hok
    obtain ⟨k, rfl⟩ := Int.eq_ofNat_of_zero_le hin.1
    have hk : k < L.length := by omega
    rcases own_cases h.own with ⟨rfl, hn, _⟩ | ⟨a, cap, cur, rfl, hba, hB, hn, hc, hs, hx⟩
    · omega
    have hl : rl L k = L[k] := by unfold rl; rw [if_pos hok]; simp [hk]
    obtain ⟨x0, x1, x2⟩ := rcells_get L k hk
    have hcell : ∀ q u, (rcells L)[k * 3 + q]? = some u → w.cell? ⟨a, k * 3 + q, none⟩ = some u := fun q u hu => by
      have hj : k * 3 + q < L.length * 3 := by have := (List.getElem?_eq_some_iff.1 hu).1; rw [rcells_len] at this; exact this
      rw [hB.cell]
      rw [← hx, List.getElem?_take_of_lt hj] at hu
      simpa using hu
    rw [hl]
    generalize L[k] = l at *
    have d0 : w.cell? ⟨a, k * 3, none⟩ = some (.int .i64 l.f) := hcell 0 _ x0
    have d1 := hcell 1 _ x1
    have d2 := hcell 2 _ x2
    have hlt := hB.lt
    have hglt := h.blk.lt
    rw [hok] at hhas
    rw [hok]
    have Hhas := Lib.hid hhas
    clear hhas hcell x0 x1 x2 hB hs hx h hok hl
    go_enter Try.func23, Try.ntmps23
    go_wp2_with (fail)
    refine Hhas.out.mono ?_
    rintro e w2 ⟨rfl, rfl⟩
    go_wp2
    exact bodyPost_ret (v := .tuple #[lval l, .bool true]) (by simp [results, Try.results23, go_sem, lval]) rfl ⟨rfl, (Mod.refl _ _).alloc _⟩
  · have hok' : hasOk L i = false := by simpa using hok
    have hl : rl L i = ⟨0, 0, []⟩ := by unfold rl; rw [hok']; rfl
    rw [hl, hok']
    rw [hok'] at hhas
    have Hhas := Lib.hid hhas
    clear hhas hok hok' hl
    go_enter Try.func23, Try.ntmps23
    go_wp2_with (fail)
    refine Hhas.out.mono ?_
    rintro e w2 ⟨rfl, rfl⟩
    go_wp2
    exact bodyPost_ret (v := .tuple #[lval ⟨0, 0, []⟩, .bool false]) (by simp [results, Try.results23, go_sem, lval]) rfl ⟨rfl, (Mod.refl _ _).alloc _⟩

theorem rside_eq (s i k : Nat) (hs : s < 18446744073709551616) : (Go.bits .and .u64 ((s : Int) / 2 ^ i) 1 == Go.bits .and .u64 ((s : Int) / 2 ^ k) 1) = (s.testBit i == s.testBit k) := by
  have h1 : ∀ j : Nat, ((s : Int) / 2 ^ j) = ((s / 2 ^ j : Nat) : Int) := fun j => by rw [Int.natCast_ediv, Int.natCast_pow]; rfl
  have hlt : ∀ j, s / 2 ^ j < 18446744073709551616 := fun j => Nat.lt_of_le_of_lt (Nat.div_le_self _ _) hs
  rw [h1, h1, show (1 : Int) = ((1 : Nat) : Int) from rfl, u64_and_nat _ _ (hlt i) (by decide), u64_and_nat _ _ (hlt k) (by decide)]
  rw [Nat.and_one_is_mod, Nat.and_one_is_mod, Nat.testBit_eq_decide_div_mod_eq, Nat.testBit_eq_decide_div_mod_eq, Bool.eq_iff_iff, beq_iff_eq, beq_iff_eq, decide_eq_decide]
  omega
/-- The document's reach is the same. -/
theorem rreach_any (B g s : Nat) (v : Value) (L : List Let) (f t : Int) (w : World) (h : RefAt B w g v L s) : Calls Try.prog 22 #[.pointer (some ⟨g, 0, none⟩), .int .i64 f, .int .i64 t] w fun e w' => e = .returned (.bool (reach s f t)) ∧ Dr w w' := by
  obtain ⟨c0, c1, f0, f1⟩ := h.cells
  have hs := h.sides
  have hn1 := node_any f w
  have hn2 := node_any t w
  clear h
  by_cases h0 : nodeOk f = true
  · have hf : 0 ≤ f ∧ f ≤ 63 := of_decide_eq_true h0
    obtain ⟨hf0, hf1⟩ := hf
    rw [h0] at hn1
    by_cases h1 : nodeOk t = true
    · have ht : 0 ≤ t ∧ t ≤ 63 := of_decide_eq_true h1
      obtain ⟨ht0, ht1⟩ := ht
      rw [h1] at hn2
      have Hn1 := Lib.hid hn1
      have Hn2 := Lib.hid hn2
      clear hn1 hn2 h0 h1
      go_enter Try.func22, Try.ntmps22
      go_wp2_with (first | (go_at_call_of 27 (Value.int .i64 f); refine Hn1.out.mono ?_; rintro e w' ⟨rfl, rfl⟩) | (go_at_call_of 27 (Value.int .i64 t); refine Hn2.out.mono ?_; rintro e w' ⟨rfl, rfl⟩))
      go_quiet (fail)
      go_wp2
      go_ret
      refine ⟨ret_bool ?_, Dr.of _ _⟩
      rw [rside_eq s _ _ hs]
      unfold reach
      rw [decide_eq_true (by omega)]
      rfl
    · have h1' : nodeOk t = false := by simpa using h1
      have hr : reach s f t = false := by unfold reach; rw [decide_eq_false (by have := of_decide_eq_false h1'; omega)]; rfl
      rw [h1'] at hn2
      have Hn1 := Lib.hid hn1
      have Hn2 := Lib.hid hn2
      have Hr := Lib.hid hr
      clear hn1 hn2 h0 h1 h1' hr
      go_enter Try.func22, Try.ntmps22
      go_wp2_with (first | (go_at_call_of 27 (Value.int .i64 f); refine Hn1.out.mono ?_; rintro e w' ⟨rfl, rfl⟩) | (go_at_call_of 27 (Value.int .i64 t); refine Hn2.out.mono ?_; rintro e w' ⟨rfl, rfl⟩))
      go_ret
      exact ⟨by rw [Hr.out]; rfl, Dr.refl _⟩
  · have h0' : nodeOk f = false := by simpa using h0
    have hr : reach s f t = false := by unfold reach; rw [decide_eq_false (by have := of_decide_eq_false h0'; omega)]; rfl
    rw [h0'] at hn1
    have Hn1 := Lib.hid hn1
    have Hr := Lib.hid hr
    clear hn1 hn2 h0 h0' hr
    go_enter Try.func22, Try.ntmps22
    go_wp2_with (go_at_call_of 27 (Value.int .i64 f); refine Hn1.out.mono ?_; rintro e w' ⟨rfl, rfl⟩)
    go_ret
    exact ⟨by rw [Hr.out]; rfl, Dr.refl _⟩

set_option maxRecDepth 100000 in
set_option maxHeartbeats 1600000 in
theorem rsend_any (B g s : Nat) (v : Value) (L : List Let) (f t : Int) (b : List UInt8) (w : World) (h : RefAt B w g v L s) : Calls Try.prog 18 #[.pointer (some ⟨g, 0, none⟩), .int .i64 f, .int .i64 t, .string ⟨b.toArray⟩] w fun e w' => e = .returned (.tuple #[]) ∧ RKept B g v (sent L f t b) s w w' := by
  obtain ⟨A, c, rfl⟩ := h.slice
  obtain ⟨c0, c1, f0, f1⟩ := h.cells
  have hn1 := node_any f w
  have hn2 := node_any t w
  have hno : ¬ (0 ≤ f ∧ 0 ≤ t ∧ f ≤ 63 ∧ t ≤ 63 ∧ L.length < 200) → RKept B g (.slice A L.length c) (sent L f t b) s w w := fun hx => by
    unfold sent; rw [if_neg hx]; exact RKept.same h (Mod.refl _ _)
  by_cases h0 : nodeOk f = true
  · have hf : 0 ≤ f ∧ f ≤ 63 := of_decide_eq_true h0
    rw [h0] at hn1
    by_cases h1 : nodeOk t = true
    · have ht : 0 ≤ t ∧ t ≤ 63 := of_decide_eq_true h1
      rw [h1] at hn2
      by_cases h2 : (L.length : Int) < 200
      · have hyes : 0 ≤ f ∧ 0 ≤ t ∧ f ≤ 63 ∧ t ≤ 63 ∧ L.length < 200 := by omega
        have hnew := Blk.new w #[.int .i64 f, .int .i64 t, .string ⟨b.toArray⟩] 39
        have hB : B ≤ w.heap.size := by have := h.blk.lt; have := h.base; omega
        obtain ⟨A8, k8, w8, hr8, ho8, hm8, hv8, _⟩ := app_ref B L.length (.slice A L.length c) (rcells L) (w.alloc (.cells #[.int .i64 f, .int .i64 t, .string ⟨b.toArray⟩] 39)) (own_mod h.own ((Mod.refl (fun _ => False) w).alloc _) (fun _ _ h => h)) ⟨w.heap.size, 0, none⟩ 1 1 [.int .i64 f, .int .i64 t, .string ⟨b.toArray⟩] (by omega) rfl
          (fun j u hj => by rw [Addr.add_lit, hnew.cell]; simpa using hj)
          (by intro u hu; simp only [List.mem_cons, List.not_mem_nil, or_false] at hu; rcases hu with rfl | rfl | rfl <;> rfl)
          (by simp; omega)
        have hal : Mod (fun b => b = g ∨ (Value.slice A L.length c).ownBlock = some b) w (w.alloc (.cells #[.int .i64 f, .int .i64 t, .string ⟨b.toArray⟩] 39)) := (Mod.refl _ _).alloc _
        have hgv : ¬ ((Value.slice A L.length c).ownBlock = some g) := fun e => by obtain ⟨cur, hc⟩ := own_type h.own e; exact Blk.ne hc h.blk (by decide) rfl
        have hb8 : Blk w8 g #[.slice A L.length c, .int .u64 s] 30 := (h.blk.alloc _).mod hm8 hgv
        have hfin : RKept B g (.slice A L.length c) (sent L f t b) s w (w8.setCell ⟨g, 0, none⟩ (.slice A8 (L.length + 1) k8)) := by
          unfold sent
          rw [if_pos hyes]
          refine put_ref h.blk.lt (hal.trans hm8 (fun i hi => .inl (.inr hi))) hb8 ?_ (fun a ha => ?_) h.base h.sides (by simp; omega)
          · rw [rcells_append, List.length_append]; exact ho8
          · rcases hv8 a ha with h | h
            · exact .inl h
            · exact .inr (by simp at h; omega)
        have c8 := hb8.cell 0
        have f8 := hb8.frozen 0
        have Hn1 := Lib.hid hn1
        have Hn2 := Lib.hid hn2
        have Hfin := Lib.hid hfin
        have Hr8 := Lib.hid hr8
        clear hn1 hn2 hfin hr8 h0 h1 hno hnew ho8 hm8 hv8 hal hgv hb8 h
        go_enter Try.func18, Try.ntmps18
        go_wp2_with (first | (go_at_call_of 27 (Value.int .i64 f); refine Hn1.out.mono ?_; rintro e w' ⟨rfl, rfl⟩) | (go_at_call_of 27 (Value.int .i64 t); refine Hn2.out.mono ?_; rintro e w' ⟨rfl, rfl⟩) | (at_builtin; refine wpList_append_run rfl _ _ 27 27 rfl _ _ rfl rfl Hr8.out ?_))
        go_end0
        exact ⟨rfl, Hfin.out⟩
      · have hno' := hno (by omega)
        have Hn1 := Lib.hid hn1
        have Hn2 := Lib.hid hn2
        have Hno := Lib.hid hno'
        clear hn1 hn2 h0 h1 hno hno' h
        go_enter Try.func18, Try.ntmps18
        go_wp2_with (first | (go_at_call_of 27 (Value.int .i64 f); refine Hn1.out.mono ?_; rintro e w' ⟨rfl, rfl⟩) | (go_at_call_of 27 (Value.int .i64 t); refine Hn2.out.mono ?_; rintro e w' ⟨rfl, rfl⟩))
        go_end0
        exact ⟨rfl, Hno.out⟩
    · have h1' : nodeOk t = false := by simpa using h1
      have hno' := hno (by have := of_decide_eq_false h1'; omega)
      rw [h1'] at hn2
      have Hn1 := Lib.hid hn1
      have Hn2 := Lib.hid hn2
      have Hno := Lib.hid hno'
      clear hn1 hn2 h0 h1 h1' hno hno' h
      go_enter Try.func18, Try.ntmps18
      go_wp2_with (first | (go_at_call_of 27 (Value.int .i64 f); refine Hn1.out.mono ?_; rintro e w' ⟨rfl, rfl⟩) | (go_at_call_of 27 (Value.int .i64 t); refine Hn2.out.mono ?_; rintro e w' ⟨rfl, rfl⟩))
      go_end0
      exact ⟨rfl, Hno.out⟩
  · have h0' : nodeOk f = false := by simpa using h0
    have hno' := hno (by have := of_decide_eq_false h0'; omega)
    rw [h0'] at hn1
    have Hn1 := Lib.hid hn1
    have Hno := Lib.hid hno'
    clear hn1 hn2 h0 h0' hno hno' h
    go_enter Try.func18, Try.ntmps18
    go_wp2_with (go_at_call_of 27 (Value.int .i64 f); refine Hn1.out.mono ?_; rintro e w' ⟨rfl, rfl⟩)
    go_end0
    exact ⟨rfl, Hno.out⟩
end Go.Proofs.Ytjhlabpnjkepbaa
