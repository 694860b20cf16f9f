/-
  A row of entries that grows, in memory. No walk in sight.
-/
import Derived.Test.YtknaaaphdjdaoaaDoorRy
import Derived.Test.YtknaaaphdjdaoaaDoorRs
namespace Go.Proofs.YtknaaaphdjdaoaaDoor
open Go.RowKit Mem
set_option linter.unusedVariables false
set_option linter.unusedSimpArgs false

theorem el_e : El Tryd.prog 22 45 5 72 := El.mk_ (z := .agg #[.int .i64 0, .int .i64 0, .int .i64 0, .slice none 0 0, .slice none 0 0]) Tryd.underlying22 (by kernel_rfl) rfl (by decide)
theorem RI.keep2 {S : Nat → Prop} {w w' : World} {x : Value} {zs : List Int} (h : RI w x zs) (hm : Mod S w w') (hS : ∀ a n c, x = .slice (some a) n c → zs ≠ [] → ¬ S a.block) : RI w' x zs := by
  rcases h with h | ⟨a, c, hv, hl, hcm, hc⟩
  · exact .inl h
  · exact .inr ⟨a, c, hv, hl, hcm, fun j z hj => cell_keep hm (hc j z hj) (by rw [add_blk]; exact hS a _ c hv (ne_of_get hj))⟩
/-- Values that lie above D, off the block o. -/
def Off (D : Nat) (o : Option Nat) (v : Value) (p : Prop) : Prop := ∀ a n c, v = .slice (some a) n c → p → D < a.block ∧ ¬ o = some a.block
/-- The cells of entries. -/
def C5 (w : World) (D : Nat) (o : Option Nat) : List Value → List En → Prop
  | xs, [] => xs = []
  | xs, e :: es => ∃ dv nv ys, xs = .int .i64 e.ix :: .int .i64 e.tm :: .int .i64 e.kd :: dv :: nv :: ys ∧ RdC w dv e.dt ∧ RI w nv e.nd ∧ Off D o dv (e.dt ≠ []) ∧ Off D o nv (e.nd ≠ []) ∧ C5 w D o ys es
theorem C5.keep {S : Nat → Prop} {w w' : World} {D : Nat} {o : Option Nat} (hm : Mod S w w') (hS : ∀ b, S b → b ≤ D ∨ o = some b) : ∀ (es : List En) (xs : List Value), C5 w D o xs es → C5 w' D o xs es
  | [], xs, h => h
  | e :: es, xs, ⟨dv, nv, ys, hx, hd, hn, h1, h2, h⟩ => ⟨dv, nv, ys, hx, hd.keep hm (fun a n c hv hne hs => by
      have := h1 a n c hv hne
      rcases hS _ hs with h | h
      · omega
      · exact this.2 h), hn.keep2 hm (fun a n c hv hne hs => by
      have := h2 a n c hv hne
      rcases hS _ hs with h | h
      · omega
      · exact this.2 h), h1, h2, C5.keep hm hS es ys h⟩
theorem rdc_lt {w : World} {v : Value} {l : Bs} (h : RdC w v l) {a : Addr} {n c : Nat} (hv : v = .slice (some a) n c) (hne : l ≠ []) : a.block < w.heap.size := by
  rcases h.1 with ⟨hv', _⟩ | ⟨x, c', hv', hc⟩
  · rw [hv] at hv'; cases hv'
  · rw [hv] at hv'
    injection hv' with h1
    injection h1 with h1
    subst h1
    cases l with
    | nil => exact absurd rfl hne
    | cons b l =>
      have := World.block_lt_of_cell? w _ (hc 0 _ rfl)
      rwa [add_blk] at this
theorem ri_lt {w : World} {v : Value} {l : List Int} (h : RI w v l) {a : Addr} {n c : Nat} (hv : v = .slice (some a) n c) (hne : l ≠ []) : a.block < w.heap.size := by
  rcases h with ⟨hv', _⟩ | ⟨x, c', hv', _, _, hc⟩
  · rw [hv] at hv'; cases hv'
  · rw [hv] at hv'
    injection hv' with h1
    injection h1 with h1
    subst h1
    cases l with
    | nil => exact absurd rfl hne
    | cons b l =>
      have := World.block_lt_of_cell? w _ (hc 0 _ rfl)
      rwa [add_blk] at this
/-- The row has moved to a new block. -/
theorem C5.off {w : World} {D : Nat} {o o' : Option Nat} (ho : ∀ b, o' = some b → o = some b ∨ w.heap.size ≤ b) : ∀ (es : List En) (xs : List Value), C5 w D o xs es → C5 w D o' xs es
  | [], xs, h => h
  | e :: es, xs, ⟨dv, nv, ys, hx, hd, hn, h1, h2, h⟩ => ⟨dv, nv, ys, hx, hd, hn, fun a n c hv hne => ⟨(h1 a n c hv hne).1, fun he => by
      rcases ho _ he with h | h
      · exact (h1 a n c hv hne).2 h
      · have := rdc_lt hd hv hne; omega⟩, fun a n c hv hne => ⟨(h2 a n c hv hne).1, fun he => by
      rcases ho _ he with h | h
      · exact (h2 a n c hv hne).2 h
      · have := ri_lt hn hv hne; omega⟩, C5.off ho es ys h⟩
theorem C5.move {w w' : World} {D : Nat} {o o' : Option Nat} (hm : Mod (fun b => o = some b) w w') (ho : ∀ b, o' = some b → o = some b ∨ w.heap.size ≤ b) : ∀ (es : List En) (xs : List Value), C5 w D o xs es → C5 w' D o' xs es
  | [], xs, h => h
  | e :: es, xs, ⟨dv, nv, ys, hx, hd, hn, h1, h2, h⟩ => ⟨dv, nv, ys, hx, hd.keep hm (fun a n c hv hne hs => (h1 a n c hv hne).2 hs), hn.keep2 hm (fun a n c hv hne hs => (h2 a n c hv hne).2 hs), fun a n c hv hne => ⟨(h1 a n c hv hne).1, fun he => by
      rcases ho _ he with h | h
      · exact (h1 a n c hv hne).2 h
      · have := rdc_lt hd hv hne; omega⟩, fun a n c hv hne => ⟨(h2 a n c hv hne).1, fun he => by
      rcases ho _ he with h | h
      · exact (h2 a n c hv hne).2 h
      · have := ri_lt hn hv hne; omega⟩, C5.move hm ho es ys h⟩
theorem C5.app {w : World} {D : Nat} {o : Option Nat} {e : En} {dv nv : Value} (hd : RdC w dv e.dt) (hn : RI w nv e.nd) (h1 : Off D o dv (e.dt ≠ [])) (h2 : Off D o nv (e.nd ≠ [])) : ∀ (es : List En) (xs : List Value), C5 w D o xs es → C5 w D o (xs ++ [.int .i64 e.ix, .int .i64 e.tm, .int .i64 e.kd, dv, nv]) (es ++ [e])
  | [], xs, h => by
    have : xs = [] := h
    subst this
    exact ⟨dv, nv, [], rfl, hd, hn, h1, h2, rfl⟩
  | f :: es, xs, ⟨dv', nv', ys, hx, hd', hn', h1', h2', h⟩ => ⟨dv', nv', ys ++ [.int .i64 e.ix, .int .i64 e.tm, .int .i64 e.kd, dv, nv], by rw [hx]; rfl, hd', hn', h1', h2', C5.app hd hn h1 h2 es ys h⟩
theorem C5.get {w : World} {D : Nat} {o : Option Nat} : ∀ (es : List En) (xs : List Value), C5 w D o xs es → ∀ (j : Nat) e, es[j]? = some e → ∃ dv nv, xs[j * 5]? = some (.int .i64 e.ix) ∧ xs[j * 5 + 1]? = some (.int .i64 e.tm) ∧ xs[j * 5 + 2]? = some (.int .i64 e.kd) ∧ xs[j * 5 + 3]? = some dv ∧ xs[j * 5 + 4]? = some nv ∧ RdC w dv e.dt ∧ RI w nv e.nd
  | [], xs, h, j, e, hj => by simp at hj
  | f :: es, xs, ⟨dv, nv, ys, hx, hd, hn, h1, h2, h⟩, 0, e, hj => by
    simp only [List.getElem?_cons_zero, Option.some.injEq] at hj
    subst hj hx
    exact ⟨dv, nv, rfl, rfl, rfl, rfl, rfl, hd, hn⟩
  | f :: es, xs, ⟨dv, nv, ys, hx, hd, hn, h1, h2, h⟩, j + 1, e, hj => by
    rw [List.getElem?_cons_succ] at hj
    obtain ⟨dv', nv', g0, g1, g2, g3, g4, g5, g6⟩ := C5.get es ys h j e hj
    subst hx
    refine ⟨dv', nv', ?_, ?_, ?_, ?_, ?_, g5, g6⟩
    · rw [← g0, show (j + 1) * 5 = j * 5 + 1 + 1 + 1 + 1 + 1 by omega]; rfl
    · rw [← g1, show (j + 1) * 5 + 1 = (j * 5 + 1) + 1 + 1 + 1 + 1 + 1 by omega]; rfl
    · rw [← g2, show (j + 1) * 5 + 2 = (j * 5 + 2) + 1 + 1 + 1 + 1 + 1 by omega]; rfl
    · rw [← g3, show (j + 1) * 5 + 3 = (j * 5 + 3) + 1 + 1 + 1 + 1 + 1 by omega]; rfl
    · rw [← g4, show (j + 1) * 5 + 4 = (j * 5 + 4) + 1 + 1 + 1 + 1 + 1 by omega]; rfl
theorem re_own {w : World} {base D : Nat} {o : Option Nat} {v : Value} {es : List En} {xs : List Value} (h : w.ownsRow base 45 5 v es.length xs) (hc : C5 w D o xs es) : RE w v es := by
  rcases own_cases h with ⟨hv, hn, hx⟩ | ⟨g, cap, cur, hv, hg, hB, hn, hcm, hs, hx⟩
  · exact .inl ⟨hv, List.eq_nil_of_length_eq_zero hn⟩
  · refine .inr ⟨⟨g, 0, none⟩, cap, hv, hn, hcm, fun j e hj => ?_⟩
    obtain ⟨dv, nv, g0, g1, g2, g3, g4, g5, g6⟩ := C5.get es xs hc j e hj
    have hj2 : j < es.length := (List.getElem?_eq_some_iff.1 hj).1
    have key : ∀ (i : Nat) u, i < es.length * 5 → xs[i]? = some u → w.cell? ⟨g, i, none⟩ = some u := by
      intro i u hi hu
      rw [hB.cell]
      rw [← hx, List.getElem?_take_of_lt hi] at hu
      simpa using hu
    refine ⟨dv, nv, ?_, ?_, ?_, ?_, ?_, g5, g6⟩
    · rw [Addr.add_lit, Nat.zero_add]; exact key _ _ (by omega) g0
    · rw [Addr.add_lit, Nat.zero_add]; exact key (j * 5 + 1) _ (by omega) g1
    · rw [Addr.add_lit, Nat.zero_add]; exact key (j * 5 + 2) _ (by omega) g2
    · rw [Addr.add_lit, Nat.zero_add]; exact key (j * 5 + 3) _ (by omega) g3
    · rw [Addr.add_lit, Nat.zero_add]; exact key (j * 5 + 4) _ (by omega) g4
end Go.Proofs.YtknaaaphdjdaoaaDoor
