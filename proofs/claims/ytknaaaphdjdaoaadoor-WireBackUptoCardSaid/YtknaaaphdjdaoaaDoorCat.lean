/-
  Rows of elements of whatever size that the call owns: append to them, and an element cut out. No program in sight.
-/
import Derived.Test.YtknaaaphdjdaoaaDoorRow
import Derived.Maps.AppendAt
namespace Go.Proofs.YtknaaaphdjdaoaaDoor.Mem
open Go.RowKit
set_option linter.unusedVariables false

/-- A slice type T of elements E: their cells, their bytes. -/
structure El (P : Program) (T E : TypeId) (sz bb : Nat) : Prop where
  sl : P.underlying T = some (.slice E)
  info : ∃ i z, P.info? E = some i ∧ i.zero = some z ∧ i.size = sz ∧ i.bytes = bb ∧ z.cells.size = sz
  pos : 0 < sz
theorem El.mk_ {P : Program} {T E : TypeId} {z : Value} {sz bb : Nat} (hs : P.underlying T = some (.slice E)) (hi : (P.info? E).map (fun i => (i.zero, i.size, i.bytes)) = some (some z, sz, bb)) (hz : z.cells.size = sz) (hp : 0 < sz) : El P T E sz bb := by
  obtain ⟨i, h, h0, h1, h2⟩ := info_parts hi
  exact ⟨hs, ⟨i, z, h, h0, h1, h2, hz⟩, hp⟩

theorem cell_keep {S : Nat → Prop} {w w' : World} (hm : Mod S w w') {a : Addr} {v : Value} (hc : w.cell? a = some v) (ha : ¬ S a.block) : w'.cell? a = some v :=
  (World.cell?_of_block (w := w) (hm.block _ (World.block_lt_of_cell? w a hc) ha)).trans hc

section
variable {P : Program} {T E : TypeId} {sz bb : Nat}
/-- append onto a row of the call's own. -/
theorem El.app (el : El P T E sz bb) (B n : Nat) (v : Value) (xs : List Value) (w : World) (hown : w.ownsRow B E sz v n xs) (ad : Addr) (m c : Nat) (news : List Value) (hmx : n + m ≤ maxLen) (hby : (n + m) * bb ≤ 140737488355328) (hl : news.length = m * sz)
    (hnews : ∀ j u, news[j]? = some u → w.cell? (ad.add j) = some u) (h1 : ∀ u ∈ news, u.oneCell' = true) (hB : B ≤ w.heap.size) :
    ∃ A k w', (Builtin.append_ #[T, T] T #[v, .slice (some ad) m c]).run P w = .ok (.slice A (n + m) k) w' ∧ w'.ownsRow B E sz (.slice A (n + m) k) (n + m) (xs ++ news) ∧ Mod (fun b => v.ownBlock = some b) w w' ∧ (∀ a, (Value.slice A (n + m) k).ownBlock = some a → v.ownBlock = some a ∨ w.heap.size ≤ a) ∧ (v ≠ .slice none 0 0 ∨ 0 < m → ∃ g, A = some ⟨g, 0, none⟩) := by
  obtain ⟨i, z, hi, hz0, hz1, hz2, hz⟩ := el.info
  obtain ⟨v', w', hr, ho, hg, hnil, hor⟩ := run_append_own_at (P := P) w B T T E i z sz bb el.sl hi hz0 hz1 hz2 hz el.pos v n xs hown ad m c news hl hnews h1 hmx hby hB
  obtain ⟨A, k, rfl, hsome⟩ : ∃ A k, v' = .slice A (n + m) k ∧ (v ≠ .slice none 0 0 ∨ 0 < m → ∃ g, A = some ⟨g, 0, none⟩) := by
    rcases own_cases ho with ⟨rfl, hn, _⟩ | ⟨g, cap, cur, rfl, _⟩
    · refine ⟨none, 0, by rw [hn], fun hv => ?_⟩
      have := hnil.1 rfl
      rcases hv with hv | hv
      · exact absurd this.1 hv
      · omega
    · exact ⟨_, cap, rfl, fun _ => ⟨g, rfl⟩⟩
  refine ⟨A, k, w', hr, ho, (Mod.refl _ w).grown hg (fun k hk => .inl hk), fun b hb => ?_, hsome⟩
  rcases hor with h | h
  · exact .inl (by rw [← h]; exact hb)
  · rw [h] at hb
    right
    injection hb with hb
    omega
/-- append of nothing. -/
theorem El.app_none (el : El P T E sz bb) (B n : Nat) (v : Value) (xs : List Value) (w : World) (hown : w.ownsRow B E sz v n xs) : (Builtin.append_ #[T, T] T #[v, .slice none 0 0]).run P w = .ok v w := by
  obtain ⟨i, z, hi, hz0, hz1, hz2, hz⟩ := el.info
  exact run_append_owned_none (P := P) (w := w) B T T E i sz el.sl hi v n xs hown
/-- One element more, out of a block of its own. -/
theorem El.app1 (el : El P T E sz bb) (B n : Nat) (v : Value) (xs : List Value) (w : World) (hown : w.ownsRow B E sz v n xs) (sb : Nat) (cs : Array Value) (c : Nat) (hV : Blk w sb cs E) (hl : cs.size = sz) (hmx : n + 1 ≤ maxLen) (hby : (n + 1) * bb ≤ 140737488355328) (h1 : ∀ u ∈ cs.toList, u.oneCell' = true) (hB : B ≤ w.heap.size) :
    ∃ A k w', (Builtin.append_ #[T, T] T #[v, .slice (some ⟨sb, 0, none⟩) 1 c]).run P w = .ok (.slice A (n + 1) k) w' ∧ w'.ownsRow B E sz (.slice A (n + 1) k) (n + 1) (xs ++ cs.toList) ∧ Mod (fun b => v.ownBlock = some b) w w' ∧ (∀ a, (Value.slice A (n + 1) k).ownBlock = some a → v.ownBlock = some a ∨ w.heap.size ≤ a) ∧ ∃ g, A = some ⟨g, 0, none⟩ := by
  obtain ⟨A, k, w', hr, ho, hm, hv, hs⟩ := el.app B n v xs w hown ⟨sb, 0, none⟩ 1 c cs.toList hmx hby (by simpa using hl) (fun j u hj => by rw [Addr.add_lit, hV.cell]; simpa using hj) h1 hB
  exact ⟨A, k, w', hr, ho, hm, hv, hs (.inr (by omega))⟩

theorem row_at {w : World} {r n : Nat} {xs : List Value} {base c : Nat} (h : w.ownsRow base E sz (.slice (some ⟨r, 0, none⟩) n c) n xs) : base ≤ r ∧ n ≤ c ∧ c ≤ maxLen ∧ xs.length = n * sz ∧ (∀ p u, xs[p]? = some u → w.cell? ⟨r, p, none⟩ = some u) ∧ ∀ p, w.frozen? ⟨r, p, none⟩ = false := by
  have hl := h.1
  rcases own_cases h with ⟨h, _⟩ | ⟨g', cap', cur', hv, hb, hB', hn', hc', hs', hx'⟩
  · cases h
  · injection hv with e1 e2 e3
    injection e1 with e1
    injection e1 with e1
    subst e1 e3
    refine ⟨hb, hn', hc', hl, fun p u hu => ?_, fun p => hB'.frozen p⟩
    have hj : p < n * sz := by have := (List.getElem?_eq_some_iff.1 hu).1; omega
    rw [hB'.cell]
    rw [← hx', List.getElem?_take_of_lt hj] at hu
    simpa using hu

/-- append(append([]T{}, r[:i]...), r[i+1:]...): what the two appends give. -/
theorem El.cut (el : El P T E sz bb) (w : World) (r m i c o : Nat) (xs : List Value) (hl : xs.length = (m + 1) * sz) (hrow : ∀ p u, xs[p]? = some u → w.cell? ⟨r, p, none⟩ = some u) (h1 : ∀ u ∈ xs, u.oneCell' = true) (hi : i ≤ m) (hc : m + 1 ≤ c) (ho : o = (i + 1) * sz) (hmx : m ≤ maxLen) (hby : m * bb ≤ 140737488355328) :
    ∃ A1 k1 w1 A2 k2 w2, (Builtin.append_ #[T, T] T #[.slice (some ⟨w.heap.size, 0, none⟩) 0 0, .slice (some ⟨r, 0, none⟩) i c]).run P (w.alloc (.cells #[] E)).drew = .ok (.slice A1 i k1) w1 ∧
      (Builtin.append_ #[T, T] T #[.slice A1 i k1, .slice (if c = i + 1 then some ⟨r, 0, none⟩ else some ⟨r, o, none⟩) (m - i) (c - (i + 1))]).run P w1 = .ok (.slice A2 m k2) w2 ∧
      w2.ownsRow w.heap.size E sz (.slice A2 m k2) m (xs.take (i * sz) ++ xs.drop ((i + 1) * sz)) ∧ Mod (fun _ => False) w w1 ∧ Mod (fun _ => False) w w2 ∧ ∃ g, A2 = some ⟨g, 0, none⟩ := by
  have hal : Mod (fun _ => False) w (w.alloc (.cells #[] E)).drew := ((Mod.refl _ w).alloc _).drew
  have hown0 : (w.alloc (.cells #[] E)).drew.ownsRow w.heap.size E sz (.slice (some ⟨w.heap.size, 0, none⟩) 0 0) 0 [] :=
    own_of (Blk.new w #[] E).drew (Nat.le_refl _) (Nat.le_refl _) (Nat.zero_le _) (by simp) (by simp)
  have hile : i * sz ≤ (m + 1) * sz := Nat.mul_le_mul_right _ (by omega)
  have hile2 : (i + 1) * sz ≤ (m + 1) * sz := Nat.mul_le_mul_right _ (by omega)
  have hib : i * bb ≤ m * bb := Nat.mul_le_mul_right _ hi
  obtain ⟨A1, k1, w1, hr1, ho1, hm1, hv1, hs1⟩ := el.app w.heap.size 0 _ [] _ hown0 ⟨r, 0, none⟩ i c (xs.take (i * sz)) (by omega) (by rw [Nat.zero_add]; omega) (by rw [List.length_take]; omega)
    (fun j u hj => by
      rw [Addr.add_lit, Nat.zero_add]
      refine cell_keep hal (hrow j u ?_) (fun h => h)
      have := (List.getElem?_eq_some_iff.1 hj).1
      rw [List.getElem?_take_of_lt (by rw [List.length_take] at this; omega)] at hj
      exact hj) (fun u hu => h1 u (List.mem_of_mem_take hu)) hal.size
  rw [Nat.zero_add] at hr1 ho1 hv1
  have hM1 : Mod (fun _ => False) w w1 := hal.trans (T := fun b => b = w.heap.size) (hm1.mono (fun b hb => by simpa [Value.ownBlock, eq_comm] using hb)) (fun i hi => .inr (by omega))
  obtain ⟨Ad, hA⟩ : ∃ Ad : Addr, (if c = i + 1 then (some ⟨r, 0, none⟩ : Option Addr) else some ⟨r, o, none⟩) = some Ad := by split <;> exact ⟨_, rfl⟩
  rw [hA]
  have him : i + (m - i) = m := by omega
  have hms : (m - i) * sz = (m + 1) * sz - (i + 1) * sz := by rw [← Nat.sub_mul]; congr 1; omega
  obtain ⟨A2, k2, w2, hr2, ho2, hm2, hv2, hs2⟩ := el.app w.heap.size i _ _ _ ho1 Ad (m - i) (c - (i + 1)) (xs.drop ((i + 1) * sz)) (by omega) (by rw [him]; exact hby) (by rw [List.length_drop, hl, hms])
    (fun j u hj => by
      have hlt := (List.getElem?_eq_some_iff.1 hj).1
      rw [List.length_drop, hl] at hlt
      have hne : ¬ c = i + 1 := by
        intro hci
        have : m = i := by omega
        subst this
        omega
      rw [if_neg hne] at hA
      obtain rfl := Option.some.inj hA
      rw [Addr.add_lit, ho]
      refine cell_keep hM1 (hrow _ u ?_) (fun h => h)
      rw [List.getElem?_drop] at hj
      exact hj) (fun u hu => h1 u (List.mem_of_mem_drop hu)) hM1.size
  have hM2 : Mod (fun _ => False) w w2 := hM1.trans hm2 (fun i hi => .inr (own_lt ho1 hi).1)
  rw [him] at hr2 ho2
  rw [List.nil_append] at ho2
  refine ⟨A1, k1, w1, A2, k2, w2, hr1, hr2, ho2, hM1, hM2, hs2 (.inl ?_)⟩
  obtain ⟨g1, rfl⟩ := hs1 (.inl (by simp))
  simp
end
end Go.Proofs.YtknaaaphdjdaoaaDoor.Mem
