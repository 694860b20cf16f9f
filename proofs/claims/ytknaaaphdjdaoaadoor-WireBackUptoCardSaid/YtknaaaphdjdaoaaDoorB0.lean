/-
  Bytes: texts, rows, what came in.
-/
import Derived.Test.YtknaaaphdjdaoaaDoorRow
import Derived.Test.YtknaaaphdjdaoaaDoorProg
import Derived.WalkKit
import Derived.Tactics2
import Derived.Defers
import Derived.Laws.Pointers
import Derived.Laws.LoneSync
import Derived.RegionTactic
import Derived.RegionCalls
import Derived.ChangeAlike
import Derived.OwnWalk
import Derived.Lib.Hide
import Derived.Laws.Cover3
import Derived.Test.YtknaaaphdjdaoaaDoorCalm
import Derived.Outline
import Derived.KernelRfl
import Derived.Deep.QuietTactic
import Derived.BigQuiet
import Derived.LoopTactic
import Derived.Deep.LoopGhost
import Derived.Deep.DeepCutAuto
import Derived.Deep.CutBlock
import Derived.Deep.RegionHeld3
import Derived.Deep.RegionWith
import Derived.StillTailTactics
import Derived.WalkSpells
import Derived.Test.YtknaaaphdjdaoaaDoorCat
import Derived.Shelf.Abstract
import Derived.LaidEqlPtr
import Derived.Deep.AppendSrc
import Derived.Lib.SlBytesConst
import Derived.Laws.IdiomStrings
import Derived.Test.YtknaaaphdjdaoaaDoorArgs
import Derived.Recover
namespace Go.Proofs.YtknaaaphdjdaoaaDoor
open Go.RowKit Mem
set_option linter.unusedVariables false
set_option linter.unusedSimpArgs false

abbrev Bs := List UInt8
def sv (l : Bs) : ByteArray := ⟨l.toArray⟩
theorem sv_toList (l : Bs) : (sv l).toList = l := by rw [ByteArray.toList_eq]; rfl
theorem sv_size (l : Bs) : (sv l).size = l.length := rfl
theorem sv_ext (l : Bs) (a b : Nat) : (sv l).extract a b = sv ((l.take b).drop a) := by
  apply ByteArray.ext
  apply Array.toList_inj.1
  rw [ByteArray.data_extract]
  simp [sv, List.drop_take]
theorem sv_plus (a b : Bs) : sv a ++ sv b = sv (a ++ b) := by
  apply ByteArray.ext
  simp [sv]
def iOf : Value → Int | .int _ n => n | _ => 0
def bts (l : Bs) : List Value := l.map fun b => .int .u8 (b.toNat : Int)
theorem bts_len (l : Bs) : (bts l).length = l.length := by simp [bts]
theorem bts_app (l m : Bs) : bts (l ++ m) = bts l ++ bts m := by simp [bts]
theorem byteCells_sv (m : Bs) : Go.byteCells (sv m) = bts m := rfl
theorem info_u8 : (Tryd.prog.info? 5).map (fun i => (i.zero, i.size, i.bytes)) = some (some (.int .u8 0), 1, 1) := by kernel_rfl
/-- What has been written so far. -/
def Fb (w : World) (v : Value) (l : Bs) (g : Nat) : Prop := ∃ cap cur, v = .slice (some ⟨g, 0, none⟩) l.length cap ∧ Blk w g cur 5 ∧ l.length ≤ cap ∧ cap ≤ maxLen ∧ cap ≤ cur.size ∧ cur.toList.take l.length = bts l
/-- The text of bytes. -/
theorem conv_text {w : World} (a : Addr) (c : Nat) (l : Bs) (hc : ∀ (j : Nat) u, (bts l)[j]? = some u → w.cell? (a.add j) = some u) : (convert 24 9 (.slice (some a) l.length c)).run Tryd.prog w = .ok (.string (sv l)) w := by
  have e0 : (l.map fun b => (b.toNat : Int)).map (Value.int .u8) = bts l := by simp [bts]
  have hl : (loadCells a l.length).run Tryd.prog w = .ok ((l.map fun b => (b.toNat : Int)).map (Value.int .u8)).toArray w := by
    have := run_loadCells_list (P := Tryd.prog) w a (bts l) hc
    rw [bts_len] at this
    rw [e0]; exact this
  rw [run_convert_bytes_string w 24 9 5 _ l.length c Tryd.underlying24 Tryd.underlying5 Tryd.underlying9, run_bytesToString w _ l.length c _ hl, foldl_push_bytes]
  congr 2
  apply ByteArray.ext
  apply Array.toList_inj.1
  simp [ByteArray.empty, ByteArray.emptyWithCapacity, sv]
  exact List.map_id'' (fun b => by simp) l
theorem alloc_cell {w : World} {C : Array Value} {t : TypeId} {fz : Nat × Nat} (j : Nat) : (w.alloc (Obj.cells C t fz)).cell? ⟨w.heap.size, j, none⟩ = C[j]? := by
  have h0 : (w.alloc (Obj.cells C t fz)).heap[w.heap.size]? = some (Obj.cells C t fz) := by
    show (w.heap.push _)[w.heap.size]? = _
    simp
  unfold World.cell?
  rw [h0]
  rfl
/-- A text's bytes, laid anew, stay a text. -/
theorem conv_laid {w w' : World} (l : Bs) (c : Nat) (C : Array Value) (fz : Nat × Nat) (hC : ∀ (j : Nat) u, (bts l)[j]? = some u → C[j]? = some u) (hm : Mod (fun _ => False) (w.alloc (Obj.cells C 5 fz)) w') :
    (convert 24 9 (.slice (some ⟨w.heap.size, 0, none⟩) l.length c)).run Tryd.prog w' = .ok (.string (sv l)) w' :=
  conv_text _ c l (fun j u hj => by
    have h := (alloc_cell (w := w) (C := C) (t := 5) (fz := fz) j).trans (hC j u hj)
    rw [Addr.add_lit, Nat.zero_add]
    exact (World.cell?_of_block (w := w.alloc (Obj.cells C 5 fz)) (hm.block _ (World.block_lt_of_cell? _ _ h) (fun h => h))).trans h)
/-- What has been put together so far: nothing, or a row of the call's own. -/
def Ob (w0 w : World) (v : Value) (l : Bs) : Prop := (v = .slice none 0 0 ∧ l = []) ∨ ∃ g, w0.heap.size ≤ g ∧ Fb w v l g
theorem Ob.mod {w0 w w' : World} {v : Value} {l : Bs} (h : Ob w0 w v l) (hm : Mod (fun _ => False) w w') : Ob w0 w' v l := by
  rcases h with h | ⟨g, hg, cap, cur, hv, hB, hr⟩
  · exact .inl h
  · exact .inr ⟨g, hg, cap, cur, hv, hB.mod hm (fun h => h), hr⟩
theorem Ob.appT {w0 w : World} {v x : Value} {tx : TypeId} {l m : Bs} (h : Ob w0 w v l) (hm : Mod (fun _ => False) w0 w) (hne : m ≠ [] ∨ l ≠ []) (hl : l.length + m.length ≤ 140737488355328) (hsrc0 : Src Tryd.prog 1 tx x m.length (bts m) w) :
    ∃ a c w', (Builtin.append_ #[24, tx] 24 #[v, x]).run Tryd.prog w = .ok (.slice a (l.length + m.length) c) w' ∧ Ob w0 w' (.slice a (l.length + m.length) c) (l ++ m) ∧ Mod (fun _ => False) w0 w' ∧ Mod (fun k => v.ownBlock = some k) w w' := by
  obtain ⟨i, hi, hz0, hz1, hz2⟩ := info_parts info_u8
  have ht := Tryd.underlying24
  have hlen : (l ++ m).length = l.length + m.length := List.length_append ..
  have hsrc : Src Tryd.prog i.size tx x m.length (bts m) w := by rw [hz1]; exact hsrc0
  rcases h with ⟨rfl, rfl⟩ | ⟨g, hg, cap, cur, rfl, hB, hlc, hcm, hcs, htk⟩
  · have hm1 : 1 ≤ m.length := List.length_pos_iff.2 (hne.resolve_right (fun h => h rfl))
    have hrun := run_append_grow_src (P := Tryd.prog) w 24 tx 24 5 i (.int .u8 0) ht hi hz0 none 0 0 []
      (run_firstCells_none w.drew i.size 0 0 0)
      x m.length (bts m) hsrc (by omega) (by omega) (by rw [hz2]; exact growslice_fits (by omega) (by omega))
    have hge := grownCap_ge w (0 + m.length) 0 5
    have hcm2 := grownCap_le_maxLen w (0 + m.length) 0 5 (by unfold maxLen; omega)
    refine ⟨_, _, _, hrun, .inr ⟨w.heap.size, hm.size, _, _, by rw [hlen], Blk.new w.drew _ 5, by simp only [List.nil_append]; omega, hcm2, ?_, ?_⟩, hm.drew.alloc _, (Mod.refl _ w).drew.alloc _⟩
    · simp only [Array.size_append, List.size_toArray, size_zeroCells, List.length_append, bts_len, List.length_nil]
      have : (Value.int IntKind.u8 0).cells.size = 1 := rfl
      rw [this]
      omega
    · simp only [Array.toList_append, List.nil_append]
      rw [← bts_len m]
      exact List.take_left
  · by_cases hroom : l.length + m.length ≤ cap
    · have hrun := run_append_room_src (P := Tryd.prog) w 24 tx 24 5 i ht hi g 0 l.length cap x m.length (bts m) hsrc hroom
        (fun j hj => by
          rw [bts_len] at hj
          rw [hB.cell, hz1, Array.getElem?_eq_getElem (by omega)]; rfl)
        (fun j hj => hB.frozen _)
      rw [hz1, Nat.zero_add, Nat.mul_one] at hrun
      refine ⟨_, _, _, hrun, .inr ⟨g, hg, cap, _, by rw [hlen], hB.setCells (bts m) l.length (by rw [bts_len]; omega), by omega, hcm, by rw [spl_size _ _ _ (by rw [bts_len]; omega)]; exact hcs, ?_⟩, hm.trans (Mod.setCells (S := fun k => k = g) _ _ (Mod.refl _ w) (.inl rfl)) (fun k hk => .inr (by rw [hk]; exact hg)), Mod.setCells _ _ (Mod.refl _ w) (.inl rfl)⟩
      rw [spl_list, htk, ← bts_app, ← bts_len (l ++ m)]
      exact List.take_left
    · have hrun := run_append_grow_src (P := Tryd.prog) w 24 tx 24 5 i (.int .u8 0) ht hi hz0 (some ⟨g, 0, none⟩) l.length cap (bts l)
        (by
          rw [hz1]
          exact run_firstCells_some w.drew 1 l.length ⟨g, 0, none⟩ l.length cap (bts l) (by rw [bts_len, Nat.mul_one]) (fun j u hu => by
            rw [Addr.add_lit, Nat.zero_add]
            have e1 : w.drew.cell? ⟨g, j, none⟩ = w.cell? ⟨g, j, none⟩ := rfl
            rw [e1, hB.cell]
            have hj : j < l.length := by have := (List.getElem?_eq_some_iff.1 hu).1; rwa [bts_len] at this
            rw [← htk, List.getElem?_take_of_lt hj] at hu
            simpa using hu))
        x m.length (bts m) hsrc (by omega) (by omega) (by rw [hz2]; exact growslice_fits (by omega) (by omega))
      have hge := grownCap_ge w (l.length + m.length) cap 5
      have hcm2 := grownCap_le_maxLen w (l.length + m.length) cap 5 (by unfold maxLen; omega)
      refine ⟨_, _, _, hrun, .inr ⟨w.heap.size, hm.size, _, _, by rw [hlen], Blk.new w.drew _ 5, by rw [hlen]; exact hge, hcm2, ?_, ?_⟩, hm.drew.alloc _, (Mod.refl _ w).drew.alloc _⟩
      · simp only [Array.size_append, List.size_toArray, size_zeroCells, List.length_append, bts_len]
        have : (Value.int IntKind.u8 0).cells.size = 1 := rfl
        rw [this]
        omega
      · simp only [Array.toList_append]
        rw [← bts_app, ← bts_len (l ++ m)]
        exact List.take_left
theorem Ob.appS {w0 w : World} {v x : Value} {tx : TypeId} {l m : Bs} (h : Ob w0 w v l) (hm : Mod (fun _ => False) w0 w) (hne : m ≠ [] ∨ l ≠ []) (hl : l.length + m.length ≤ 140737488355328) (hsrc0 : Src Tryd.prog 1 tx x m.length (bts m) w) :
    ∃ a c w', (Builtin.append_ #[24, tx] 24 #[v, x]).run Tryd.prog w = .ok (.slice a (l.length + m.length) c) w' ∧ Ob w0 w' (.slice a (l.length + m.length) c) (l ++ m) ∧ Mod (fun _ => False) w0 w' :=
  let ⟨a, c, w', h1, h2, h3, _⟩ := h.appT hm hne hl hsrc0
  ⟨a, c, w', h1, h2, h3⟩
theorem Ob.app {w0 w : World} {v : Value} {l m : Bs} (h : Ob w0 w v l) (hm : Mod (fun _ => False) w0 w) (hne : m ≠ [] ∨ l ≠ []) (hl : l.length + m.length ≤ 140737488355328) :
    ∃ a c w', (Builtin.append_ #[24, 9] 24 #[v, .string (sv m)]).run Tryd.prog w = .ok (.slice a (l.length + m.length) c) w' ∧ Ob w0 w' (.slice a (l.length + m.length) c) (l ++ m) ∧ Mod (fun _ => False) w0 w' :=
  h.appS hm hne hl (Src.ofString w Tryd.underlying9 (sv m))
theorem Ob.app1 {w0 w : World} {v : Value} {l : Bs} (b : UInt8) (h : Ob w0 w v l) (hm : Mod (fun _ => False) w0 w) (hl : l.length + 1 ≤ 140737488355328) :
    ∃ a c w', (Builtin.append_ #[24, 24] 24 #[v, .slice (some ⟨w.heap.size, 0, none⟩) 1 1]).run Tryd.prog (w.alloc (.cells #[.int .u8 (b.toNat : Int)] 5)) = .ok (.slice a (l.length + 1) c) w' ∧ Ob w0 w' (.slice a (l.length + 1) c) (l ++ [b]) ∧ Mod (fun _ => False) w0 w' :=
  (h.mod ((Mod.refl _ w).alloc _)).appS (m := [b]) (hm.alloc _) (.inl (by simp)) hl (Src.ofSlice _ Tryd.underlying24 ⟨w.heap.size, 0, none⟩ 1 1 (bts [b]) rfl (fun j u hj => by
    rw [Addr.add_lit, Nat.zero_add, alloc_cell]
    rw [← Array.getElem?_toList]; exact hj) (fun u hu => by
      simp only [bts, List.mem_map] at hu
      obtain ⟨z, _, rfl⟩ := hu
      rfl))
theorem Ob.app1T {w0 w : World} {v : Value} {l : Bs} (b : UInt8) (h : Ob w0 w v l) (hm : Mod (fun _ => False) w0 w) (hl : l.length + 1 ≤ 140737488355328) :
    ∃ a c w', (Builtin.append_ #[24, 24] 24 #[v, .slice (some ⟨w.heap.size, 0, none⟩) 1 1]).run Tryd.prog (w.alloc (.cells #[.int .u8 (b.toNat : Int)] 5)) = .ok (.slice a (l.length + 1) c) w' ∧ Ob w0 w' (.slice a (l.length + 1) c) (l ++ [b]) ∧ Mod (fun _ => False) w0 w' ∧ Mod (fun k => v.ownBlock = some k) w w' := by
  have h0 : Ob w0 (w.alloc (.cells #[.int .u8 (b.toNat : Int)] 5)) v l := h.mod ((Mod.refl _ w).alloc _)
  obtain ⟨a, c, w', h1, h2, h3, h4⟩ := h0.appT (m := [b]) (hm.alloc _) (.inl (by simp)) hl (Src.ofSlice _ Tryd.underlying24 ⟨w.heap.size, 0, none⟩ 1 1 (bts [b]) rfl (fun j u hj => by
    rw [Addr.add_lit, Nat.zero_add, alloc_cell]
    rw [← Array.getElem?_toList]; exact hj) (fun u hu => by
      simp only [bts, List.mem_map] at hu
      obtain ⟨z, _, rfl⟩ := hu
      rfl))
  exact ⟨a, c, w', h1, h2, h3, Mod.trans (T := fun k => v.ownBlock = some k) ((Mod.refl _ w).alloc _) h4 (fun i hi => .inl hi)⟩
theorem nil_text (w : World) : (convert 24 9 (.slice none 0 0)).run Tryd.prog w = .ok (.string (sv [])) w := by kernel_rfl
/-- The text of these bytes. -/
theorem Ob.text {w0 w : World} {v : Value} {l : Bs} (h : Ob w0 w v l) : (convert 24 9 v).run Tryd.prog w = .ok (.string (sv l)) w := by
  rcases h with ⟨rfl, rfl⟩ | ⟨g, hg, cap, cur, rfl, hB, hlc, hcm, hcs, htk⟩
  · exact nil_text w
  · refine conv_text _ cap l (fun j u hj => ?_)
    rw [Addr.add_lit, Nat.zero_add, hB.cell]
    have hj2 : j < l.length := by have := (List.getElem?_eq_some_iff.1 hj).1; rwa [bts_len] at this
    rw [← htk, List.getElem?_take_of_lt hj2] at hj
    simpa using hj
/-- It is a slice of so many. -/
theorem Ob.val {w0 w : World} {v : Value} {l : Bs} (h : Ob w0 w v l) : ∃ a c, v = .slice a l.length c := by
  rcases h with ⟨rfl, rfl⟩ | ⟨g, hg, cap, cur, rfl, _⟩
  · exact ⟨_, _, rfl⟩
  · exact ⟨_, _, rfl⟩
def Rd (w : World) (v : Value) (l : Bs) : Prop := (v = .slice none 0 0 ∧ l = []) ∨ ∃ x c, v = .slice (some x) l.length c ∧ ∀ (j : Nat) u, (bts l)[j]? = some u → w.cell? (x.add j) = some u
def RdC (w : World) (v : Value) (l : Bs) : Prop := Rd w v l ∧ ∃ A c, v = .slice A l.length c ∧ l.length ≤ c ∧ c ≤ maxLen
theorem Rd.mod {w w' : World} {v : Value} {l : Bs} (h : Rd w v l) (hm : Mod (fun _ => False) w w') : Rd w' v l := by
  rcases h with h | ⟨x, c, hv, hc⟩
  · exact .inl h
  · exact .inr ⟨x, c, hv, fun j u hj => cell_keep hm (hc j u hj) (fun h => h)⟩
theorem Rd.text {w : World} {v : Value} {l : Bs} (h : Rd w v l) : (convert 24 9 v).run Tryd.prog w = .ok (.string (sv l)) w := by
  rcases h with ⟨rfl, rfl⟩ | ⟨x, c, rfl, hc⟩
  · exact nil_text w
  · exact conv_text x c l hc
theorem RdC.len {w : World} {a : Option Addr} {n c : Nat} {l : Bs} (h : RdC w (.slice a n c) l) : l.length = n := by
  obtain ⟨_, A, c', hv, _⟩ := h
  injection hv with _ e _
  exact e.symm
theorem el5 : El Tryd.prog 24 5 1 1 := El.mk_ (z := .int .u8 0) Tryd.underlying24 (by kernel_rfl) rfl (by decide)
theorem rd_own {w : World} {base : Nat} {v : Value} {l : Bs} (h : w.ownsRow base 5 1 v l.length (bts l)) : Rd w v l := by
  rcases own_cases h with ⟨hv, hn, hx⟩ | ⟨g, cap, cur, hv, hg, hB, hn, hc, hs, hx⟩
  · have : l = [] := List.eq_nil_of_length_eq_zero hn
    subst this
    exact .inl ⟨hv, rfl⟩
  · refine .inr ⟨⟨g, 0, none⟩, cap, hv, fun j u hj => ?_⟩
    rw [Addr.add_lit, Nat.zero_add, hB.cell]
    have hj2 : j < l.length := by have := (List.getElem?_eq_some_iff.1 hj).1; rwa [bts_len] at this
    rw [← hx, List.getElem?_take_of_lt (by omega)] at hj
    simpa using hj
/-- append([]byte{}, b...). -/
theorem copy_any (w : World) (v : Value) (l : Bs) (h : Rd w v l) (hl : l.length ≤ 1048576) :
    ∃ A c w', (Builtin.append_ #[24, 24] 24 #[.slice (some ⟨w.heap.size, 0, none⟩) 0 0, v]).run Tryd.prog (w.alloc (.cells #[] 5)) = .ok (.slice A l.length c) w' ∧ Rd w' (.slice A l.length c) l ∧ Mod (fun _ => False) w w' := by
  have hal : Mod (fun _ => False) w (w.alloc (.cells #[] 5)) := (Mod.refl _ w).alloc _
  have hown0 : (w.alloc (.cells #[] 5)).ownsRow w.heap.size 5 1 (.slice (some ⟨w.heap.size, 0, none⟩) 0 0) 0 [] :=
    own_of (Blk.new w #[] 5) (Nat.le_refl _) (Nat.le_refl _) (Nat.zero_le _) (by simp) (by simp)
  have hR := h.mod hal
  rcases hR with ⟨rfl, rfl⟩ | ⟨x, c, rfl, hc⟩
  · refine ⟨_, _, _, el5.app_none w.heap.size 0 _ [] _ hown0, ?_, hal⟩
    exact rd_own hown0
  · obtain ⟨A1, k1, w1, hr1, ho1, hm1, hv1, hs1⟩ := el5.app w.heap.size 0 _ [] _ hown0 x l.length c (bts l) (by unfold maxLen; omega) (by omega) (by rw [bts_len, Nat.mul_one]) hc (fun u hu => by
      simp only [bts, List.mem_map] at hu
      obtain ⟨z, _, rfl⟩ := hu
      rfl) hal.size
    rw [Nat.zero_add] at hr1 ho1
    refine ⟨A1, k1, w1, hr1, rd_own ho1, hal.trans (T := fun b => b = w.heap.size) (hm1.mono (fun b hb => by simpa [Value.ownBlock, eq_comm] using hb)) (fun i hi => .inr (by omega))⟩
theorem ob_own {w0 w : World} {v : Value} {l : Bs} (h : w.ownsRow w0.heap.size 5 1 v l.length (bts l)) : Ob w0 w v l := by
  rcases own_cases h with ⟨hv, hn, hx⟩ | ⟨g, cap, cur, hv, hg, hB, hn, hc, hs, hx⟩
  · have : l = [] := List.eq_nil_of_length_eq_zero hn
    exact .inl ⟨hv, this⟩
  · exact .inr ⟨g, hg, cap, cur, hv, hB, hn, hc, by omega, by rw [Nat.mul_one] at hx; exact hx⟩
/-- append([]byte(nil), b...). -/
theorem copy_nil (w : World) (v : Value) (l : Bs) (h : Rd w v l) (hl : l.length ≤ 1048576) :
    ∃ A c w', (Builtin.append_ #[24, 24] 24 #[.slice none 0 0, v]).run Tryd.prog w = .ok (.slice A l.length c) w' ∧ Ob w w' (.slice A l.length c) l ∧ Mod (fun _ => False) w w' := by
  rcases h with ⟨rfl, rfl⟩ | ⟨x, c, rfl, hc⟩
  · exact ⟨_, _, _, el5.app_none w.heap.size 0 _ [] _ (World.ownsRow_nil _ _ _ _), .inl ⟨rfl, rfl⟩, Mod.refl _ _⟩
  · obtain ⟨A1, k1, w1, hr1, ho1, hm1, hv1, hs1⟩ := el5.app w.heap.size 0 (.slice none 0 0) [] w (World.ownsRow_nil _ _ _ _) x l.length c (bts l) (by unfold maxLen; omega) (by omega) (by rw [bts_len, Nat.mul_one]) hc (fun u hu => by
      simp only [bts, List.mem_map] at hu
      obtain ⟨z, _, rfl⟩ := hu
      rfl) (Nat.le_refl _)
    rw [Nat.zero_add] at hr1 ho1
    exact ⟨A1, k1, w1, hr1, ob_own ho1, hm1.mono (fun b hb => by simp [Value.ownBlock] at hb)⟩
/-- append([]byte{}, b...), as bytes of the call's own. -/
theorem copy_ob (w : World) (v : Value) (l : Bs) (h : Rd w v l) (hl : l.length ≤ 1048576) :
    ∃ A c w', (Builtin.append_ #[24, 24] 24 #[.slice (some ⟨w.heap.size, 0, none⟩) 0 0, v]).run Tryd.prog (w.alloc (.cells #[] 5)) = .ok (.slice A l.length c) w' ∧ Ob w w' (.slice A l.length c) l ∧ Mod (fun _ => False) w w' := by
  have hal : Mod (fun _ => False) w (w.alloc (.cells #[] 5)) := (Mod.refl _ w).alloc _
  have hown0 : (w.alloc (.cells #[] 5)).ownsRow w.heap.size 5 1 (.slice (some ⟨w.heap.size, 0, none⟩) 0 0) 0 [] :=
    own_of (Blk.new w #[] 5) (Nat.le_refl _) (Nat.le_refl _) (Nat.zero_le _) (by simp) (by simp)
  have hR := h.mod hal
  rcases hR with ⟨rfl, rfl⟩ | ⟨x, c, rfl, hc⟩
  · exact ⟨_, _, _, el5.app_none w.heap.size 0 _ [] _ hown0, ob_own hown0, hal⟩
  · obtain ⟨A1, k1, w1, hr1, ho1, hm1, hv1, hs1⟩ := el5.app w.heap.size 0 _ [] _ hown0 x l.length c (bts l) (by unfold maxLen; omega) (by omega) (by rw [bts_len, Nat.mul_one]) hc (fun u hu => by
      simp only [bts, List.mem_map] at hu
      obtain ⟨z, _, rfl⟩ := hu
      rfl) hal.size
    rw [Nat.zero_add] at hr1 ho1
    exact ⟨A1, k1, w1, hr1, ob_own ho1, hal.trans (T := fun b => b = w.heap.size) (hm1.mono (fun b hb => by simpa [Value.ownBlock, eq_comm] using hb)) (fun i hi => .inr (by omega))⟩
/-- What was put together reads so. -/
theorem Ob.rd {w0 w : World} {v : Value} {l : Bs} (h : Ob w0 w v l) : RdC w v l := by
  rcases h with ⟨rfl, rfl⟩ | ⟨g, hg, cap, cur, rfl, hB, hlc, hcm, hcs, htk⟩
  · exact ⟨.inl ⟨rfl, rfl⟩, none, 0, rfl, Nat.le_refl _, Nat.zero_le _⟩
  · refine ⟨.inr ⟨⟨g, 0, none⟩, cap, rfl, fun j u hj => ?_⟩, _, cap, rfl, hlc, hcm⟩
    rw [Addr.add_lit, Nat.zero_add, hB.cell]
    have hj2 : j < l.length := by have := (List.getElem?_eq_some_iff.1 hj).1; rwa [bts_len] at this
    rw [← htk, List.getElem?_take_of_lt hj2] at hj
    simpa using hj
theorem RdC.mod {w w' : World} {v : Value} {l : Bs} (h : RdC w v l) (hm : Mod (fun _ => False) w w') : RdC w' v l := ⟨h.1.mod hm, h.2⟩
end Go.Proofs.YtknaaaphdjdaoaaDoor
