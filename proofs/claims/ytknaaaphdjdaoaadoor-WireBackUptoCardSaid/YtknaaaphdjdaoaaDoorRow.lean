/-
  Rows of cells, whole: what copy, clear and append with room make of them, at elements of whatever size. No program in sight.
-/
import Derived.Test.YtknaaaphdjdaoaaDoorMem
import Derived.Laws.IdiomCopy
import Derived.ArgAppend
import Derived.Laws.AppendOwn
import Derived.Laws.OwnMore
import Derived.Deep.AppendLies
namespace Go.Proofs.YtknaaaphdjdaoaaDoor.Mem
open Go.RowKit
set_option linter.unusedVariables false

/-- Cells laid over a row from a place on. -/
def spl (cur : Array Value) (o : Nat) (cs : List Value) : Array Value := (cur.toList.take o ++ cs ++ cur.toList.drop (o + cs.length)).toArray
theorem spl_size (cur : Array Value) (o : Nat) (cs : List Value) (h : o + cs.length ≤ cur.size) : (spl cur o cs).size = cur.size := by
  simp [spl]; omega
theorem spl_nil (cur : Array Value) (o : Nat) : spl cur o [] = cur := by simp [spl]
theorem spl_list (cur : Array Value) (o : Nat) (cs : List Value) : (spl cur o cs).toList = cur.toList.take o ++ cs ++ cur.toList.drop (o + cs.length) := by simp [spl]
theorem spl_cons (cur : Array Value) (o : Nat) (v : Value) (cs : List Value) (h : o < cur.size) : spl (cur.setIfInBounds o v) (o + 1) cs = spl cur o (v :: cs) := by
  apply Array.toList_inj.1
  rw [spl_list, spl_list, Array.toList_setIfInBounds]
  have h1 : (cur.toList.set o v).take (o + 1) = cur.toList.take o ++ [v] := by
    rw [List.take_add_one, List.take_set_of_le (by omega), List.getElem?_set_self (by simpa using h)]
    rfl
  have h2 : (cur.toList.set o v).drop (o + 1 + cs.length) = cur.toList.drop (o + (v :: cs).length) := by
    rw [List.drop_set_of_lt (by omega), List.length_cons]
    congr 1; omega
  rw [h1, h2]
  simp

theorem Blk.setCells {g : Nat} {t : TypeId} (vs : List Value) : ∀ {cur : Array Value} (o : Nat) {w : World}, Blk w g cur t → o + vs.length ≤ cur.size → Blk (w.setCells g o vs) g (spl cur o vs) t := by
  induction vs with
  | nil => intro cur o w h _; rw [spl_nil]; exact h
  | cons v vs ih =>
    intro cur o w h hl
    rw [List.length_cons] at hl
    rw [World.setCells, ← spl_cons cur o v vs (by omega)]
    exact ih (o + 1) (h.set o v) (by rw [Array.size_setIfInBounds]; omega)
theorem Mod.setCells {S : Nat → Prop} {a : World} {g : Nat} (vs : List Value) : ∀ (o : Nat) {b : World}, Mod S a b → (S g ∨ a.heap.size ≤ g) → Mod S a (b.setCells g o vs) := by
  induction vs with
  | nil => intro o b h _; exact h
  | cons v vs ih => intro o b h hg; exact ih (o + 1) (h.setCell (p := ⟨g, o, none⟩) hg v) hg
theorem size_setCells (g : Nat) (vs : List Value) : ∀ (o : Nat) (w : World), (w.setCells g o vs).heap.size = w.heap.size := by
  induction vs with
  | nil => intro o w; rfl
  | cons v vs ih => intro o w; rw [World.setCells, ih]; simp [World.setCell]
theorem Blk.setCells_far {g h : Nat} {t : TypeId} {cur : Array Value} (vs : List Value) (hne : g ≠ h) : ∀ (o : Nat) {w : World}, Blk w g cur t → Blk (w.setCells h o vs) g cur t := by
  induction vs with
  | nil => intro o w hb; exact hb
  | cons v vs ih => intro o w hb; exact ih (o + 1) (hb.far (p := ⟨h, o, none⟩) hne v)

section
variable {P : Program}
/-- append with room, onto a row that is known whole. -/
theorem row_append (w : World) (t ty e : TypeId) (i : TypeInfo) (size : Nat) (ht : P.underlying t = some (.slice e)) (hi : P.info? e = some i) (hsz : i.size = size)
    (g off n cap : Nat) (cur : Array Value) (et : TypeId) (hg : Blk w g cur et) (a : Addr) (m c : Nat) (news : List Value) (hl : news.length = m * size) (hnews : ∀ j u, news[j]? = some u → w.cell? (a.add j) = some u) (h1 : ∀ u ∈ news, u.oneCell' = true)
    (hroom : n + m ≤ cap) (hfit : off + n * size + news.length ≤ cur.size) :
    (Builtin.append_ #[t, t] ty #[.slice (some ⟨g, off, none⟩) n cap, .slice (some a) m c]).run P w = .ok (.slice (some ⟨g, off, none⟩) (n + m) cap) (w.setCells g (off + n * size) news) := by
  subst hsz
  refine run_append_room_cells w t ty e i ht hi g off n cap a m c news hl hnews h1 hroom (fun j hj => ?_) (fun j hj => hg.frozen _)
  rw [hg.cell, Array.getElem?_eq_getElem (by omega)]
  rfl
/-- copy into a row that is known whole. -/
theorem row_copy (w : World) (dT sT ty elem : TypeId) (size : Nat) (g o dLen dCap : Nat) (a : Addr) (sLen sCap : Nat) (cur : Array Value) (et : TypeId) (hg : Blk w g cur et) (cs : List Value)
    (hu : P.underlying dT = some (.slice elem)) (hs : (P.info? elem).map (·.size) = some size) (hn : cs.length = Nat.min sLen dLen * size)
    (hsrc : ∀ j v, cs[j]? = some v → w.cell? (a.add j) = some v) (hfit : o + cs.length ≤ cur.size) (h1 : ∀ v ∈ cs, v.oneCell' = true) :
    (Builtin.copy_ #[dT, sT] ty #[.slice (some ⟨g, o, none⟩) dLen dCap, .slice (some a) sLen sCap]).run P w = .ok (goInt (Nat.min sLen dLen)) (w.setCells g o cs) := by
  have hl := run_loadCells_list (P := P) w a cs hsrc
  have hst := run_storeCells_cells (P := P) g o cs 0 w (fun j hj => by rw [hg.cell, Array.getElem?_eq_getElem (by omega)]; rfl) (fun j _ => hg.frozen _) h1
  cases hq : P.info? elem with
  | none => simp [hq] at hs
  | some i =>
    have hi : i.size = size := by simpa [hq] using hs
    simp only [Nat.add_zero] at hst
    simp [Builtin.copy_, run_underlying hu, Builtin.lenOf, Builtin.firstCells, sizeOf, typeInfo, hq, hi, ← hn, hl, hst]
/-- clear of a row that is known whole. -/
theorem row_clear (w : World) (t e ty : TypeId) (z : Value) (zs : List Value) (ht : P.underlying t = some (.slice e)) (hv : ∀ w, (zeroValue e).run P w = .ok z w) (n c : Nat) (hz : (Builtin.zeroCells z.cells n).toList = zs) (h1 : ∀ v ∈ zs, v.oneCell' = true) (g o : Nat) (hn : 0 < n)
    (cur : Array Value) (et : TypeId) (hg : Blk w g cur et) (hfit : o + zs.length ≤ cur.size) :
    (Builtin.clear_ #[t] ty #[.slice (some ⟨g, o, none⟩) n c]).run P w = .ok (.tuple #[]) (w.setCells g o zs) := by
  have hst := run_storeCells_cells (P := P) g o zs 0 w (fun j hj => by rw [hg.cell, Array.getElem?_eq_getElem (by omega)]; rfl) (fun j _ => hg.frozen _) h1
  simp only [Nat.add_zero] at hst
  obtain ⟨m, rfl⟩ : ∃ m, n = m + 1 := ⟨n - 1, by omega⟩
  simp [Builtin.clear_, run_underlying ht, hv, hz, hst]
theorem wpList_append_run {w : World} {ops : Array Oper} {rest : List Oper} {o : Oper} {a : Act} {Q : Exit → Act → World → Prop} (hgd : o.guard = none) (d s : Operand) (t t' : TypeId)
    (ho : o.op = .call { callee := .builtin .append, args := #[d, s], argTypes := #[t, t'] }) (v u : Value) (hd : a.eval d = v) (hs : a.eval s = u)
    {v' : Value} {w' : World} (hr : (Builtin.append_ #[t, t'] o.type #[v, u]).run P w = .ok v' w') (h : wpList P ops Q rest (a.put o.dst v') w') : wpList P ops Q (o :: rest) a w :=
  wpList_plain hgd fun K hK => by
    unfold Oper.wp execOp
    simp only [ho, resolve, invoke, builtin, Sem.run_bind, Sem.run_pure, Result.andThen_ok, List.map_toArray, List.map_cons, List.map_nil, hd, hs, hr]
    exact hK _ _ h
theorem wpList_copy_run {w : World} {ops : Array Oper} {rest : List Oper} {o : Oper} {a : Act} {Q : Exit → Act → World → Prop} (hgd : o.guard = none) (d s : Operand) (t t' : TypeId)
    (ho : o.op = .call { callee := .builtin .copy, args := #[d, s], argTypes := #[t, t'] }) (v u : Value) (hd : a.eval d = v) (hs : a.eval s = u)
    {v' : Value} {w' : World} (hr : (Builtin.copy_ #[t, t'] o.type #[v, u]).run P w = .ok v' w') (h : wpList P ops Q rest (a.put o.dst v') w') : wpList P ops Q (o :: rest) a w :=
  wpList_plain hgd fun K hK => by
    unfold Oper.wp execOp
    simp only [ho, resolve, invoke, builtin, Sem.run_bind, Sem.run_pure, Result.andThen_ok, List.map_toArray, List.map_cons, List.map_nil, hd, hs, hr]
    exact hK _ _ h
end

/-- The same at a step of a region that draws its order. -/
theorem step_append_run {P : Program} {ops : Array Oper} {o : Oper} {a : Act} {w : World} {K : Act → World → Prop} {Q : Exit → Act → World → Prop} {E : Prop} (hg : o.guard = none) (d x : Operand) (dT sT : TypeId)
    (hop : o.op = Op.call { callee := Callee.builtin Builtin.append, args := #[d, x], argTypes := #[dT, sT] })
    (v u : Value) (hd : a.eval d = v) (hx : a.eval x = u) {v' : Value} {w' : World} (hr : (Builtin.append_ #[dT, sT] o.type #[v, u]).run P w = .ok v' w') (hK : K (a.put o.dst v') w') :
    if Region.wanted o (yielded ops a.tmps) = true then Oper.wp P o a w K Q else E := by
  have hw : Region.wanted o (yielded ops a.tmps) = true := by simp [Region.wanted, hg]
  rw [if_pos hw]
  unfold Oper.wp
  simp [execOp, hop, resolve, invoke, builtin, hd, hx, hr, Result.andThen]
  exact hK

/-- A row that the call owns, out of its block. -/
theorem own_of {w : World} {base g n cap size : Nat} {e : TypeId} {cur : Array Value} {xs : List Value} (hg : Blk w g cur e) (hb : base ≤ g) (hn : n ≤ cap) (hc : cap ≤ maxLen) (hs : cur.size = cap * size) (hx : cur.toList.take (n * size) = xs) :
    w.ownsRow base e size (.slice (some ⟨g, 0, none⟩) n cap) n xs := by
  refine ⟨?_, .inr ⟨g, cap, cur, rfl, hb, hg, hn, hc, hs, hx⟩⟩
  rw [← hx, List.length_take, Array.length_toList, hs]
  exact Nat.min_eq_left (Nat.mul_le_mul_right _ hn)
/-- And the block out of the row: it is nil, or a block. -/
theorem own_cases {w : World} {base n size : Nat} {e : TypeId} {v : Value} {xs : List Value} (h : w.ownsRow base e size v n xs) :
    (v = .slice none 0 0 ∧ n = 0 ∧ xs = []) ∨ ∃ g cap cur, v = .slice (some ⟨g, 0, none⟩) n cap ∧ base ≤ g ∧ Blk w g cur e ∧ n ≤ cap ∧ cap ≤ maxLen ∧ cur.size = cap * size ∧ cur.toList.take (n * size) = xs := by
  rcases h with ⟨hl, ⟨rfl, rfl⟩ | ⟨g, cap, cur, rfl, hb, hg, hn, hc, hs, hx⟩⟩
  · exact .inl ⟨rfl, rfl, List.eq_nil_of_length_eq_zero (by simpa using hl)⟩
  · exact .inr ⟨g, cap, cur, rfl, hb, hg, hn, hc, hs, hx⟩
theorem own_mod {w w' : World} {base n size : Nat} {e : TypeId} {v : Value} {xs : List Value} {S : Nat → Prop} (h : w.ownsRow base e size v n xs) (hm : Mod S w w') (hv : ∀ g, v.ownBlock = some g → ¬ S g) : w'.ownsRow base e size v n xs := by
  refine ⟨h.1, ?_⟩
  rcases h.2 with hn | ⟨g, cap, cur, rfl, hb, hg, r⟩
  · exact .inl hn
  · exact .inr ⟨g, cap, cur, rfl, hb, Blk.mod hg hm (hv g rfl), r⟩
theorem own_lt {w : World} {base n size : Nat} {e : TypeId} {v : Value} {xs : List Value} (h : w.ownsRow base e size v n xs) {g : Nat} (hg : v.ownBlock = some g) : base ≤ g ∧ g < w.heap.size := h.lt g hg
theorem own_base {w : World} {base base' n size : Nat} {e : TypeId} {v : Value} {xs : List Value} (h : w.ownsRow base e size v n xs) (hb : base' ≤ base) : w.ownsRow base' e size v n xs := by
  refine ⟨h.1, ?_⟩
  rcases h.2 with hn | ⟨g, cap, cur, rfl, hb', r⟩
  · exact .inl hn
  · exact .inr ⟨g, cap, cur, rfl, Nat.le_trans hb hb', r⟩
/-- The block of a row, and its cells' type. -/
theorem own_type {w : World} {base n size : Nat} {e : TypeId} {v : Value} {xs : List Value} (h : w.ownsRow base e size v n xs) {g : Nat} (hg : v.ownBlock = some g) : ∃ cur, Blk w g cur e := by
  rcases own_cases h with ⟨rfl, _⟩ | ⟨g', cap, cur, rfl, _, hb, _⟩
  · simp [Value.ownBlock] at hg
  · simp [Value.ownBlock] at hg; subst hg; exact ⟨cur, hb⟩
theorem Blk.ne {w : World} {g h : Nat} {cs ds : Array Value} {t u : TypeId} (a : Blk w g cs t) (b : Blk w h ds u) (hne : t ≠ u) : g ≠ h := by
  rintro rfl
  unfold Blk at a b
  rw [a] at b
  injection b with b
  injection b with _ b2
  exact hne b2

end Go.Proofs.YtknaaaphdjdaoaaDoor.Mem
