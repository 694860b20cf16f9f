/-
  Bytes in a row of the call's own, whatever mark lies behind it: one byte more, and the text that they are.
-/
import Derived.Test.YtkmidilaabgooaaDoorCl
import Derived.Test.YtkmidilaabgooaaDoorCat
import Derived.Laws.IdiomStrings
import Derived.Laws.BytesArg
namespace Go.Proofs.YtkmidilaabgooaaDoor
open Go.RowKit Mem
set_option linter.unusedVariables false
set_option linter.unusedSimpArgs false

/-- Bytes as cells. -/
def byc (l : Bs) : List Value := l.map fun b => Value.int .u8 (b.toNat : Int)
theorem byc_len (l : Bs) : (byc l).length = l.length := by simp [byc]
def Byt (w : World) (B : Nat) (v : Value) (l : Bs) : Prop := (v = .slice none 0 0 ∧ l = []) ∨
  ∃ g cap cur fz, v = .slice (some ⟨g, 0, none⟩) l.length cap ∧ B ≤ g ∧ w.heap[g]? = some (.cells cur 5 fz) ∧ (∀ i, i < cap → w.frozen? ⟨g, i, none⟩ = false) ∧ l.length ≤ cap ∧ cap ≤ maxLen ∧ cur.size = cap ∧ cur.toList.take l.length = byc l
theorem Byt.nil (w : World) (B : Nat) : Byt w B (.slice none 0 0) [] := .inl ⟨rfl, rfl⟩
theorem Byt.lt {w : World} {B : Nat} {v : Value} {l : Bs} (h : Byt w B v l) {g : Nat} (hg : v.ownBlock = some g) : B ≤ g ∧ g < w.heap.size := by
  rcases h with ⟨rfl, _⟩ | ⟨g', cap, cur, fz, rfl, hb, hh, _⟩
  · simp [Value.ownBlock] at hg
  · simp [Value.ownBlock] at hg
    subst hg
    exact ⟨hb, (Array.getElem?_eq_some_iff.1 hh).1⟩
theorem Byt.mod {w w' : World} {B : Nat} {v : Value} {l : Bs} {S : Nat → Prop} (h : Byt w B v l) (hm : Mod S w w') (hv : ∀ g, v.ownBlock = some g → ¬ S g) : Byt w' B v l := by
  rcases h with h | ⟨g, cap, cur, fz, rfl, hb, hh, hf, r⟩
  · exact .inl h
  · have e := hm.block g (Array.getElem?_eq_some_iff.1 hh).1 (hv g rfl)
    refine .inr ⟨g, cap, cur, fz, rfl, hb, e.trans hh, fun i hi => ?_, r⟩
    have := hf i hi
    unfold World.frozen? at this ⊢
    rw [e]
    exact this
theorem Byt.val {w : World} {B : Nat} {v : Value} {l : Bs} (h : Byt w B v l) : ∃ a c, v = .slice a l.length c := by
  rcases h with ⟨rfl, rfl⟩ | ⟨g, cap, cur, fz, rfl, _⟩
  · exact ⟨none, 0, rfl⟩
  · exact ⟨_, _, rfl⟩
theorem setCells_frozen (g : Nat) (vs : List Value) : ∀ (o : Nat) (w : World) (a : Addr), (w.setCells g o vs).frozen? a = w.frozen? a := by
  induction vs with
  | nil => intro o w a; rfl
  | cons v vs ih =>
    intro o w a
    rw [World.setCells, ih, World.frozen?_setCell]
section
variable {P : Program}
/-- One byte more. -/
theorem Byt.push {T : TypeId} (hs : P.underlying T = some (.slice 5)) (hi : (P.info? 5).map (fun i => (i.zero, i.size, i.bytes)) = some (some (Value.int .u8 0), 1, 1)) {w : World} {B : Nat} {v : Value} {l : Bs} (h : Byt w B v l) (sb c : Nat) (b : UInt8) (hV : Blk w sb #[.int .u8 (b.toNat : Int)] 5)
    (hl : l.length + 1 ≤ 140737488355328) (hB : B ≤ w.heap.size) :
    ∃ A k w', (Builtin.append_ #[T, T] T #[v, .slice (some ⟨sb, 0, none⟩) 1 c]).run P w = .ok (.slice A (l.length + 1) k) w' ∧ Byt w' B (.slice A (l.length + 1) k) (l ++ [b]) ∧ Mod (fun x => v.ownBlock = some x) w w' := by
  have el : El P T 5 1 1 := El.mk_ hs hi rfl (by decide)
  obtain ⟨i, hi0, hz0, hz1, hz2⟩ := info_parts hi
  have hnews : ∀ j u, [Value.int .u8 (b.toNat : Int)][j]? = some u → w.cell? ((⟨sb, 0, none⟩ : Addr).add j) = some u := fun j u hj => by
    rw [Addr.add_lit, hV.cell]; simpa using hj
  have h1 : ∀ u ∈ [Value.int .u8 (b.toNat : Int)], u.oneCell' = true := fun u hu => by
    have : u = .int .u8 (b.toNat : Int) := by simpa using hu
    rw [this]; rfl
  have hlen : (l ++ [b]).length = l.length + 1 := by simp
  have hbyc : byc (l ++ [b]) = byc l ++ [.int .u8 (b.toNat : Int)] := by simp [byc]
  rcases h with ⟨rfl, rfl⟩ | ⟨g, cap, cur, fz, rfl, hb, hh, hf, hlc, hcm, hcs, htk⟩
  · obtain ⟨A, k, w', hr, ho, hm, _, g, rfl⟩ := el.app1 B 0 (.slice none 0 0) [] w (World.ownsRow_nil _ _ _ _) sb _ c hV rfl (by decide) (by decide) (by simpa using h1) hB
    refine ⟨_, k, w', hr, ?_, hm⟩
    rcases own_cases ho with ⟨h, _⟩ | ⟨g', cap', cur', hv, hb', hB', hn', hc', hs', hx'⟩
    · cases h
    · injection hv with e1 e2 e3
      injection e1 with e1
      injection e1 with e1
      subst e1 e3
      refine .inr ⟨g, k, cur', (0, 0), rfl, hb', hB', fun i _ => hB'.frozen i, by simpa using hn', hc', by simpa using hs', ?_⟩
      simpa [byc] using hx'
  · by_cases hroom : l.length + 1 ≤ cap
    · have hr := run_append_room_cells (P := P) w T T 5 i hs hi0 g 0 l.length cap ⟨sb, 0, none⟩ 1 c [.int .u8 (b.toNat : Int)] (by rw [hz1]; rfl) hnews h1 hroom
        (fun j hj => by
          have : j = 0 := by simpa using hj
          subst this
          rw [hz1]
          show (w.cell? ⟨g, 0 + l.length * 1 + 0, none⟩).isSome = true
          unfold World.cell?
          rw [hh]
          show (cur[0 + l.length * 1 + 0]?).isSome = true
          rw [Array.getElem?_eq_getElem (by omega)]; rfl)
        (fun j hj => by
          have : j = 0 := by simpa using hj
          subst this
          rw [hz1]
          exact hf _ (by omega))
      rw [hz1, Nat.zero_add, Nat.mul_one] at hr
      refine ⟨_, _, _, hr, ?_, Mod.setCell (S := fun x => (some g : Option Nat) = some x) (Mod.refl _ w) (p := ⟨g, l.length, none⟩) (.inl rfl) _⟩
      have e : (w.setCells g l.length [.int .u8 (b.toNat : Int)]).heap[g]? = some (.cells (cur.setIfInBounds l.length (.int .u8 (b.toNat : Int))) 5 fz) := by
        show (w.setCell ⟨g, l.length, none⟩ _).heap[g]? = _
        simp [World.setCell, Array.getElem?_modify, hh]
      refine .inr ⟨g, cap, cur.setIfInBounds l.length (.int .u8 (b.toNat : Int)), fz, by rw [hlen], hb, e, fun i hi => ?_, by rw [hlen]; exact hroom, hcm, by rw [Array.size_setIfInBounds]; exact hcs, ?_⟩
      · rw [setCells_frozen]; exact hf i hi
      · rw [hlen, hbyc, Array.toList_setIfInBounds, List.take_add_one, List.take_set_of_le (Nat.le_refl _), htk, List.getElem?_set_self (by have e2 : cur.toList.length = cur.size := Array.length_toList; omega)]
        rfl
    · have hr := run_append_grow (P := P) w T T 5 i (.int .u8 0) hs hi0 hz0 ⟨g, 0, none⟩ l.length cap (byc l) (by rw [byc_len, hz1, Nat.mul_one])
        (fun j u hu => by
          rw [Addr.add_lit, Nat.zero_add]
          unfold World.cell?
          rw [hh]
          show cur[j]? = some u
          have hj : j < l.length := by have := (List.getElem?_eq_some_iff.1 hu).1; rwa [byc_len] at this
          rw [← htk, List.getElem?_take_of_lt hj] at hu
          simpa using hu)
        ⟨sb, 0, none⟩ 1 c [.int .u8 (b.toNat : Int)] (by rw [hz1]; rfl) hnews (by omega) (by omega) (by rw [hz2]; exact growslice_fits (by omega) (by omega))
      refine ⟨_, _, _, hr, ?_, ((Mod.refl _ w).drew.alloc _)⟩
      have hge := grownCap_ge w (l.length + 1) cap 5
      have hcm2 : grownCap w (l.length + 1) cap 5 ≤ maxLen := grownCap_le_maxLen w (l.length + 1) cap 5 (by unfold maxLen; omega)
      refine .inr ⟨w.heap.size, _, _, (0, 0), by rw [hlen], hB, heap_alloc_new w.drew _, fun i _ => (Blk.new w.drew _ 5).frozen i, by rw [hlen]; exact hge, hcm2, ?_, ?_⟩
      · simp only [Array.size_append, List.size_toArray, size_zeroCells, byc_len, List.length_singleton]
        have : (Value.int IntKind.u8 0).cells.size = 1 := rfl
        rw [this]
        omega
      · simp only [Array.toList_append, List.append_assoc]
        rw [← List.append_assoc, hbyc, ← hbyc, ← byc_len]
        exact List.take_left
/-- The text that the bytes are. -/
theorem Byt.text {T S : TypeId} (hs : P.underlying T = some (.slice 5)) (h5 : P.underlying 5 = some (.int .u8)) (h9 : P.underlying S = some .string) {w : World} {B : Nat} {v : Value} {l : Bs} (h : Byt w B v l) : (convert T S v).run P w = .ok (.string (sv l)) w := by
  rcases h with ⟨rfl, rfl⟩ | ⟨g, cap, cur, fz, rfl, hb, hh, hf, hlc, hcm, hcs, htk⟩
  · rw [run_convert_bytes_nil w T 5 hs h5 0 0 S h9]
    rfl
  · have := run_convert_bytes_arg (P := P) w T 5 hs h5 g 0 l.length cap (l.map fun b => (b.toNat : Int)) (by simp) (fun i hi => by
      rw [Nat.zero_add]
      unfold World.cell?
      rw [hh]
      show cur[i]? = _
      have e : (byc l)[i]? = some (Value.int .u8 ((l.map fun b => (b.toNat : Int)).getD i 0)) := by
        simp [byc, hi]
      rw [← htk, List.getElem?_take_of_lt hi] at e
      simpa using e) S h9
    rw [this]
    have e : strOfNums (l.map fun b => (b.toNat : Int)) = sv l := by
      apply ByteArray.ext
      apply Array.toList_inj.1
      rw [strOfNums_data, List.map_map, sv_list]
      have : ((fun n : Int => UInt8.ofNat n.toNat) ∘ fun b : UInt8 => (b.toNat : Int)) = id := by
        funext b; simp
      rw [this, List.map_id]
    rw [e]
end
/-- []byte(s). -/
theorem byt_conv (w : World) (s : Bs) (c n m : Nat) (hc : s.length ≤ c) (hcm : c ≤ maxLen) (hn : c ≤ n) : Byt (w.alloc (.cells (bytesRow (sv s) c) 5 (n, m))).drew w.heap.size (.slice (some ⟨w.heap.size, 0, none⟩) s.length c) s := by
  have hh : (w.alloc (.cells (bytesRow (sv s) c) 5 (n, m))).drew.heap[w.heap.size]? = some (.cells (bytesRow (sv s) c) 5 (n, m)) := by
    show (w.heap.push _)[w.heap.size]? = _
    simp
  refine .inr ⟨w.heap.size, c, bytesRow (sv s) c, (n, m), rfl, Nat.le_refl _, hh, fun i hi => ?_, hc, hcm, ?_, ?_⟩
  · unfold World.frozen?
    rw [hh]
    simp
    omega
  · have e : (sv s).data.size = s.length := rfl
    have e2 : (sv s).size = s.length := rfl
    simp only [bytesRow, Array.size_append, Array.size_map, Array.size_replicate, e, e2]
    omega
  · unfold bytesRow
    rw [Array.toList_append, List.take_append_of_le_length (by simp [sv]), List.take_of_length_le (by simp [sv])]
    simp [sv, byc]
end Go.Proofs.YtkmidilaabgooaaDoor
