/-
  Bytes of a file: a row of its own, cut short or not; a slice that reads as bytes; a fresh copy.
-/
import Derived.Test.YtoceddcppbddnaaCat
import Derived.Test.YtoceddcppbddnaaNames
import Derived.Test.YtoceddcppbddnaaProg
import Derived.WalkKit
import Derived.OwnWalk
import Derived.ArgAppend
import Derived.Laws.IdiomStrings
import Derived.Laws.BytesArg
import Derived.Test.YtoceddcppbddnaaShelf
namespace Go.Proofs.Ytoceddcppbddnaa
open Go.RowKit Mem
set_option linter.unusedVariables false
set_option linter.unusedSimpArgs false

theorem ret_int {k : IntKind} {a b : Int} (h : a = b) : Ending.returned (.int k a) = .returned (.int k b) := by rw [h]
theorem ret_bool {a b : Bool} (h : a = b) : Ending.returned (.bool a) = .returned (.bool b) := by rw [h]
theorem ret_val {a b : Value} (h : a = b) : Ending.returned a = .returned b := by rw [h]
def bts (l : List UInt8) : List Value := l.map fun b => .int .u8 (b.toNat : Int)
theorem bts_len (l : List UInt8) : (bts l).length = l.length := by simp [bts]
theorem bts_app (l m : List UInt8) : bts (l ++ m) = bts l ++ bts m := by simp [bts]
theorem bts_one (l : List UInt8) : ∀ v ∈ bts l, v.oneCell' = true := by
  intro v hv
  obtain ⟨b, _, rfl⟩ := List.mem_map.1 hv
  rfl
theorem bts_take (l : List UInt8) (k : Nat) : bts (l.take k) = (bts l).take k := by simp [bts, List.map_take]
theorem info5 : (Try.prog.info? 5).map (fun i => (i.zero, i.size, i.bytes)) = some (some (.int .u8 0), 1, 1) := by kernel_rfl
theorem el22 : El Try.prog 22 5 1 1 := El.mk_ Try.underlying22 info5 rfl (by decide)
/-- A slice of bytes that reads as a list, wherever it lies. -/
def Rd (w : World) (v : Value) (b : Bs) : Prop := (v = .slice none 0 0 ∧ b = []) ∨ ∃ ad c, v = .slice (some ad) b.length c ∧ ∀ j u, (bts b)[j]? = some u → w.cell? (ad.add j) = some u
theorem Rd.mod {S : Nat → Prop} {w w' : World} {v : Value} {b : Bs} (h : Rd w v b) (hm : Mod S w w') (hS : ∀ g, v.ownBlock = some g → ¬ S g) : Rd w' v b := by
  rcases h with h | ⟨ad, c, rfl, hc⟩
  · exact .inl h
  · refine .inr ⟨ad, c, rfl, fun j u hu => ?_⟩
    have h1 := hc j u hu
    have h2 := World.block_lt_of_cell? w _ h1
    exact (World.cell?_of_block (w := w) (hm.block _ h2 (hS _ (by simp only [Value.ownBlock, Addr.add]; split <;> rfl)))).trans h1
theorem Rd.nil (w : World) : Rd w (.slice none 0 0) [] := .inl ⟨rfl, rfl⟩
theorem Rd.shape {w : World} {v : Value} {b : Bs} (h : Rd w v b) : ∃ a c, v = .slice a b.length c := by
  rcases h with ⟨rfl, rfl⟩ | ⟨ad, c, rfl, _⟩
  · exact ⟨none, 0, rfl⟩
  · exact ⟨_, _, rfl⟩
/-- A file's bytes. -/
def Fb (w : World) (v : Value) (l : Bs) : Prop := (v = .slice none 0 0 ∧ l = []) ∨
  ∃ g cap cur fz, v = .slice (some ⟨g, 0, none⟩) l.length cap ∧ w.heap[g]? = some (.cells cur 5 fz) ∧ (∀ i, i < cap → w.frozen? ⟨g, i, none⟩ = false) ∧ l.length ≤ cap ∧ cap ≤ maxLen ∧ cap ≤ cur.size ∧ cur.toList.take l.length = bts l
theorem Fb.nil (w : World) : Fb w (.slice none 0 0) [] := .inl ⟨rfl, rfl⟩
theorem Fb.lt {w : World} {v : Value} {l : Bs} (h : Fb w v l) {g : Nat} (hg : v.ownBlock = some g) : g < w.heap.size := by
  rcases h with ⟨rfl, _⟩ | ⟨g', cap, cur, fz, rfl, hh, _⟩
  · simp [Value.ownBlock] at hg
  · simp [Value.ownBlock] at hg
    subst hg
    exact (Array.getElem?_eq_some_iff.1 hh).1
theorem Fb.type {w : World} {v : Value} {l : Bs} (h : Fb w v l) {g : Nat} (hg : v.ownBlock = some g) : ∃ cur fz, w.heap[g]? = some (.cells cur 5 fz) := by
  rcases h with ⟨rfl, _⟩ | ⟨g', cap, cur, fz, rfl, hh, _⟩
  · simp [Value.ownBlock] at hg
  · simp [Value.ownBlock] at hg
    subst hg
    exact ⟨_, _, hh⟩
theorem Fb.mod {w w' : World} {v : Value} {l : Bs} {S : Nat → Prop} (h : Fb w v l) (hm : Mod S w w') (hv : ∀ g, v.ownBlock = some g → ¬ S g) : Fb w' v l := by
  rcases h with h | ⟨g, cap, cur, fz, rfl, hh, hf, r⟩
  · exact .inl h
  · have e := hm.block g (Array.getElem?_eq_some_iff.1 hh).1 (hv g rfl)
    refine .inr ⟨g, cap, cur, fz, rfl, e.trans hh, fun i hi => ?_, r⟩
    have := hf i hi
    unfold World.frozen? at this ⊢
    rw [e]
    exact this
theorem Fb.rd {w : World} {v : Value} {l : Bs} (h : Fb w v l) : Rd w v l := by
  rcases h with h | ⟨g, cap, cur, fz, rfl, hh, hf, hlc, hcm, hcs, htk⟩
  · exact .inl h
  · refine .inr ⟨⟨g, 0, none⟩, cap, rfl, fun j u hu => ?_⟩
    have hj : j < l.length := by have := (List.getElem?_eq_some_iff.1 hu).1; rwa [bts_len] at this
    rw [Addr.add_lit, Nat.zero_add]
    unfold World.cell?
    rw [hh]
    show cur[j]? = some u
    rw [← htk, List.getElem?_take_of_lt hj] at hu
    simpa using hu
/-- Cut short. -/
theorem Fb.cut {w : World} {l : Bs} {a : Option Addr} {n c : Nat} (h : Fb w (.slice a n c) l) (k : Nat) (hk : k ≤ l.length) : Fb w (.slice a k k) (l.take k) := by
  rcases h with ⟨hv, rfl⟩ | ⟨g, cap, cur, fz, hv, hh, hf, hlc, hcm, hcs, htk⟩
  · injection hv with e1 e2 e3
    subst e1
    have : k = 0 := by simpa using hk
    subst this
    exact .inl ⟨rfl, rfl⟩
  · injection hv with e1 e2 e3
    subst e1 e2 e3
    have hl : (l.take k).length = k := by simp; omega
    refine .inr ⟨g, k, cur, fz, by rw [hl], hh, fun i hi => hf i (by omega), by omega, by omega, by omega, ?_⟩
    rw [hl, bts_take, ← htk, List.take_take]
    congr 1
    omega
theorem Fb.shape {w : World} {v : Value} {l : Bs} (h : Fb w v l) : ∃ a c, v = .slice a l.length c ∧ l.length ≤ c ∧ c ≤ maxLen := by
  rcases h with ⟨rfl, rfl⟩ | ⟨g, cap, cur, fz, rfl, _, _, h1, h2, _⟩
  · exact ⟨none, 0, rfl, Nat.le_refl _, Nat.zero_le _⟩
  · exact ⟨_, _, rfl, h1, h2⟩
theorem setCells_frozen (g : Nat) (vs : List Value) : ∀ (o : Nat) (w : World) (a : Addr), (w.setCells g o vs).frozen? a = w.frozen? a := by
  induction vs with
  | nil => intro o w a; rfl
  | cons v vs ih =>
    intro o w a
    rw [World.setCells, ih, World.frozen?_setCell]
theorem setCells_heap (g : Nat) (T : TypeId) (fz : Nat × Nat) (vs : List Value) : ∀ (o : Nat) (cur : Array Value) (w : World), w.heap[g]? = some (.cells cur T fz) → o + vs.length ≤ cur.size → (w.setCells g o vs).heap[g]? = some (.cells (spl cur o vs) T fz) := by
  induction vs with
  | nil => intro o cur w h _; rw [spl_nil]; exact h
  | cons v vs ih =>
    intro o cur w h hl
    rw [World.setCells]
    have h1 : (w.setCell ⟨g, o, none⟩ v).heap[g]? = some (.cells (cur.setIfInBounds o v) T fz) := by
      simp [World.setCell, Array.getElem?_modify, h]
    rw [ih (o + 1) _ _ h1 (by simp at hl ⊢; omega), spl_cons _ _ _ _ (by simp at hl; omega)]
/-- More bytes. -/
theorem Fb.app {w : World} {v x : Value} {l m : Bs} (h : Fb w v l) (hr : Rd w x m) (hl : l.length + m.length ≤ 140737488355328) :
    ∃ v' w', (Builtin.append_ #[22, 22] 22 #[v, x]).run Try.prog w = .ok v' w' ∧ Fb w' v' (l ++ m) ∧ Mod (fun g => v.ownBlock = some g) w w' ∧ (∀ g, v'.ownBlock = some g → v.ownBlock = some g ∨ w.heap.size ≤ g) := by
  obtain ⟨i, hi, hz0, hz1, hz2⟩ := info_parts info5
  have ht := Try.underlying22
  rcases hr with ⟨rfl, rfl⟩ | ⟨ad, c, rfl, hcells⟩
  · refine ⟨v, w, ?_, by rw [List.append_nil]; exact h, Mod.refl _ _, fun g hg => .inl hg⟩
    rcases h with ⟨rfl, rfl⟩ | ⟨g, cap, cur, fz, rfl, hh, hf, hlc, hcm, hcs, htk⟩
    · simp [Builtin.append_, run_underlying ht, sizeOf, typeInfo, hi, Builtin.lenOf, Builtin.firstCells]
    · simp [Builtin.append_, run_underlying ht, sizeOf, typeInfo, hi, Builtin.lenOf, Builtin.firstCells, hlc, storeCells]
  · rcases h with ⟨rfl, rfl⟩ | ⟨g, cap, cur, fz, rfl, hh, hf, hlc, hcm, hcs, htk⟩
    · by_cases hm0 : m.length = 0
      · have : m = [] := List.eq_nil_of_length_eq_zero hm0
        subst this
        refine ⟨.slice none 0 0, w, ?_, Fb.nil _, Mod.refl _ _, fun g hg => .inl hg⟩
        simp [Builtin.append_, run_underlying ht, sizeOf, typeInfo, hi, Builtin.lenOf, Builtin.firstCells, loadCells, loadCellsFrom, storeCells]
      · have hrun := run_append_nil (P := Try.prog) w 22 22 5 i (.int .u8 0) ht hi hz0 ad m.length c (bts m) (by rw [bts_len, hz1, Nat.mul_one]) hcells (by omega) (by omega) (by rw [hz2]; simp at hl; omega)
        have hge := grownCap_ge w m.length 0 5
        have hcm2 := grownCap_le_maxLen w m.length 0 5 (by unfold maxLen; simp at hl; omega)
        refine ⟨_, _, hrun, ?_, ((Mod.refl _ w).drew.alloc _), fun g hg => .inr ?_⟩
        · refine .inr ⟨w.heap.size, _, _, (0, 0), rfl, heap_alloc_new w.drew _, fun i _ => (Blk.new w.drew _ 5).frozen i, hge, hcm2, ?_, ?_⟩
          · simp only [Array.size_append, List.size_toArray, size_zeroCells, bts_len]
            have : (Value.int IntKind.u8 0).cells.size = 1 := rfl
            rw [this]
            omega
          · simp only [Array.toList_append]
            rw [List.nil_append]
            show List.take m.length (bts m ++ _) = bts m
            conv => lhs; rw [← bts_len m]
            exact List.take_left
        · simp [Value.ownBlock] at hg; omega
    · have hlen : (l ++ m).length = l.length + m.length := List.length_append ..
      by_cases hroom : l.length + m.length ≤ cap
      · have hrun := run_append_room_cells (P := Try.prog) w 22 22 5 i ht hi g 0 l.length cap ad m.length c (bts m) (by rw [bts_len, hz1, Nat.mul_one]) hcells (bts_one m) hroom
          (fun j hj => by
            rw [bts_len] at hj
            rw [hz1]
            unfold World.cell?
            rw [hh]
            show (cur[0 + l.length * 1 + j]?).isSome = true
            rw [Array.getElem?_eq_getElem (by omega)]; rfl)
          (fun j hj => by
            rw [bts_len] at hj
            rw [hz1]
            exact hf _ (by omega))
        rw [hz1, Nat.zero_add, Nat.mul_one] at hrun
        refine ⟨_, _, hrun, ?_, Mod.setCells _ _ (Mod.refl _ w) (.inl rfl), fun g' hg' => .inl hg'⟩
        refine .inr ⟨g, cap, _, fz, by rw [hlen], setCells_heap g 5 fz (bts m) l.length cur w hh (by rw [bts_len]; omega), fun i hi => by rw [setCells_frozen]; exact hf i hi, by omega, hcm, by rw [spl_size _ _ _ (by rw [bts_len]; omega)]; exact hcs, ?_⟩
        rw [spl_list, htk, ← bts_app, ← bts_len (l ++ m)]
        exact List.take_left
      · have hrun := run_append_grow (P := Try.prog) w 22 22 5 i (.int .u8 0) ht hi hz0 ⟨g, 0, none⟩ l.length cap (bts l) (by rw [bts_len, hz1, Nat.mul_one])
          (fun j u hu => by
            rw [Addr.add_lit, Nat.zero_add]
            unfold World.cell?
            rw [hh]
            show cur[j]? = some u
            have hj : j < l.length := by have := (List.getElem?_eq_some_iff.1 hu).1; rwa [bts_len] at this
            rw [← htk, List.getElem?_take_of_lt hj] at hu
            simpa using hu)
          ad m.length c (bts m) (by rw [bts_len, hz1, Nat.mul_one]) hcells (by omega) (by omega) (by rw [hz2]; exact growslice_fits (by omega) (by omega))
        have hge := grownCap_ge w (l.length + m.length) cap 5
        have hcm2 := grownCap_le_maxLen w (l.length + m.length) cap 5 (by unfold maxLen; omega)
        refine ⟨_, _, hrun, ?_, ((Mod.refl _ w).drew.alloc _), fun g hg => .inr ?_⟩
        · refine .inr ⟨w.heap.size, _, _, (0, 0), by rw [hlen], heap_alloc_new w.drew _, fun i _ => (Blk.new w.drew _ 5).frozen i, by rw [hlen]; exact hge, hcm2, ?_, ?_⟩
          · simp only [Array.size_append, List.size_toArray, size_zeroCells, bts_len]
            have : (Value.int IntKind.u8 0).cells.size = 1 := rfl
            rw [this]
            omega
          · simp only [Array.toList_append, List.append_assoc]
            rw [← List.append_assoc, ← bts_app, ← bts_len (l ++ m)]
            exact List.take_left
        · simp [Value.ownBlock] at hg; omega
/-- The text of bytes. -/
theorem Rd.text {w : World} {v : Value} {l : Bs} (h : Rd w v l) : (convert 22 9 v).run Try.prog w = .ok (.string (sv l)) w := by
  rcases h with ⟨rfl, rfl⟩ | ⟨ad, c, rfl, hc⟩
  · rw [run_convert_bytes_nil w 22 5 Try.underlying22 Try.underlying5 0 0 9 Try.underlying9]
    rfl
  · have e0 : (l.map fun b => (b.toNat : Int)).map (Value.int .u8) = bts l := by simp [bts]
    have hl : (loadCells ad l.length).run Try.prog w = .ok ((l.map fun b => (b.toNat : Int)).map (Value.int .u8)).toArray w := by
      have := run_loadCells_list (P := Try.prog) w ad (bts l) hc
      rw [bts_len] at this
      rw [e0]; exact this
    rw [run_convert_bytes_string w 22 9 5 _ l.length c Try.underlying22 Try.underlying5 Try.underlying9, run_bytesToString w _ l.length c _ hl, foldl_push_bytes]
    congr 2
    apply ByteArray.ext
    apply Array.toList_inj.1
    simp [ByteArray.empty, ByteArray.emptyWithCapacity, sv]
    exact List.map_id'' (fun b => by simp) l
/-- A row of the call's own is a file's bytes, and reads. -/
theorem rd_own {w : World} {base : Nat} {v : Value} {b : Bs} (h : w.ownsRow base 5 1 v b.length (bts b)) : Rd w v b := by
  rcases own_cases h with ⟨rfl, hn, hx⟩ | ⟨g, cap, cur, rfl, hg, hB, hn, hc, hs, hx⟩
  · exact .inl ⟨rfl, List.eq_nil_of_length_eq_zero hn⟩
  · refine .inr ⟨⟨g, 0, none⟩, cap, rfl, fun j u hu => ?_⟩
    have hj : j < b.length := by have := (List.getElem?_eq_some_iff.1 hu).1; rwa [bts_len] at this
    rw [Addr.add_lit, hB.cell, Nat.zero_add]
    rw [← hx, List.getElem?_take_of_lt (by omega)] at hu
    simpa using hu
/-- bytes.Clone: a fresh copy, in a block of its own kind. -/
def Cloned (w : World) (b : Bs) (e : Ending) (w' : World) : Prop := ∃ v, e = .returned v ∧ w'.ownsRow w.heap.size 5 1 v b.length (bts b) ∧ Mod (fun _ => False) w w'
theorem clone_rd (w : World) (v : Value) (b : Bs) (hv : Rd w v b) (hb : b.length ≤ 140737488355328) : Calls Try.prog 33 #[v] w (Cloned w b) := by
  rcases hv with ⟨rfl, rfl⟩ | ⟨ad, cap, rfl, hcells⟩
  · refine (Try.bytes_Clone_nil 0 0 w).mono ?_
    rintro e w' ⟨rfl, rfl⟩
    exact ⟨_, rfl, World.ownsRow_nil _ _ _ _, Mod.refl _ _⟩
  · refine (Try.bytes_Clone_at ad b.length cap (b.map fun x => (x.toNat : Int)) w (by simp) hb (fun i hi => ?_)).mono ?_
    · have : (bts b)[i]? = some (.int .u8 ((b.map fun x => (x.toNat : Int)).getD i 0)) := by
        simp [bts, hi]
      exact hcells i _ this
    · rintro e w' ⟨v', rfl, ho, _, hbl⟩
      refine ⟨v', rfl, ?_, Mod.of_below hbl⟩
      have e0 : (b.map fun x => (x.toNat : Int)).map (Value.int .u8) = bts b := by simp [bts]
      rw [e0] at ho
      exact ho
end Go.Proofs.Ytoceddcppbddnaa
