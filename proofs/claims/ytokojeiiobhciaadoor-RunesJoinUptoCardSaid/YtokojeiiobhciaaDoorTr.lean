/-
  strings.NewReplacer's trie: a key laid into it.
-/
import Derived.Test.YtokojeiiobhciaaDoorOn
import Derived.Laws.Cover3
import Derived.Test.YtokojeiiobhciaaDoorCalm
import Derived.Outline
import Derived.KernelRfl
import Derived.Deep.QuietTactic
import Derived.BigQuiet
import Derived.LoopTactic
import Derived.Deep.LoopGhost
import Derived.Deep.DeepCutAuto
import Derived.Deep.CutBlock
import Derived.Deep.RegionHeld3
import Derived.Deep.RegionWith
import Derived.StillTailTactics
import Derived.WalkSpells
namespace Go.Proofs.YtokojeiiobhciaaDoor
open Go.RowKit Mem
set_option linter.unusedVariables false
set_option linter.unusedSimpArgs false

abbrev Bs := List UInt8
def sv (l : Bs) : ByteArray := ⟨l.toArray⟩
theorem sv_toList (l : Bs) : (sv l).toList = l := by rw [ByteArray.toList_eq]; rfl
theorem sv_size (l : Bs) : (sv l).size = l.length := rfl
theorem sv_ext (l : Bs) (a b : Nat) : (sv l).extract a b = sv ((l.take b).drop a) := by
  apply ByteArray.ext
  apply Array.toList_inj.1
  rw [ByteArray.data_extract]
  simp [sv, List.drop_take]
/-- A node's cells. -/
def nodeC (val : Bs) (pr : Int) (pre : Bs) (nx : Option Nat) (tb : Value) : Array Value := #[.string (sv val), .int .i64 pr, .string (sv pre), .pointer (nx.map fun n => ⟨n, 0, none⟩), tb]
set_option maxRecDepth 100000 in
set_option maxHeartbeats 800000 in
/-- At the key's end: the value is laid in. -/
theorem add_leaf (n : Nat) (val : Bs) (pr : Int) (r : Value) (tb : Value) (w : World) (h : Blk w n (nodeC [] 0 [] none tb) 125) :
    Calls Tryd.prog 66 #[.pointer (some ⟨n, 0, none⟩), .string (sv []), .string (sv val), .int .i64 pr, r] w fun e w' => e = .returned (.tuple #[]) ∧ Blk w' n (nodeC val pr [] none tb) 125 ∧ Mod (· = n) w w' := by
  have c0 : w.cell? ⟨n, 0, none⟩ = some (.string (sv [])) := h.cell 0
  have c1 : w.cell? ⟨n, 1, none⟩ = some (.int .i64 0) := h.cell 1
  have z0 := h.frozen 0
  have z1 := h.frozen 1
  have heq : (sv []).toList.isEmpty = true := by rw [sv_toList]; rfl
  have H := Lib.hid h
  clear h
  go_enter Tryd.func66, Tryd.ntmps66
  go_wp2
  refine bodyPost_ret (results_none rfl _ _ _) rfl ?_
  exact ⟨rfl, (H.out.set 0 (.string (sv val))).set 1 (.int .i64 pr), Mod.setCell (S := (· = n)) (Mod.setCell (S := (· = n)) (Mod.refl _ w) (p := ⟨n, 0, none⟩) (.inl rfl) _) (p := ⟨n, 1, none⟩) (.inl rfl) _⟩
set_option maxRecDepth 100000 in
set_option maxHeartbeats 1600000 in
/-- At a fresh node: the rest of the key is its prefix. -/
theorem add_fresh (n : Nat) (key val : Bs) (pr : Int) (r : Value) (w : World) (hk : key ≠ []) (h : Blk w n (nodeC [] 0 [] none (.slice none 0 0)) 125) :
    Calls Tryd.prog 66 #[.pointer (some ⟨n, 0, none⟩), .string (sv key), .string (sv val), .int .i64 pr, r] w fun e w' => e = .returned (.tuple #[]) ∧
      Blk w' n (nodeC [] 0 key (some w.heap.size) (.slice none 0 0)) 125 ∧ Blk w' w.heap.size (nodeC val pr [] none (.slice none 0 0)) 125 ∧ Mod (· = n) w w' := by
  have c2 : w.cell? ⟨n, 2, none⟩ = some (.string (sv [])) := h.cell 2
  have c3 : w.cell? ⟨n, 3, none⟩ = some (.pointer none) := h.cell 3
  have c4 : w.cell? ⟨n, 4, none⟩ = some (.slice none 0 0) := h.cell 4
  have z2 := h.frozen 2
  have z3 := h.frozen 3
  have heq : (sv []).toList.isEmpty = true := by rw [sv_toList]; rfl
  have hnq := fun (w : World) (a : Option Addr) (l c : Nat) => run_neq_slice_nil (P := Tryd.prog) w 123 122 a l c Tryd.underlying123
  have hne : (sv key).toList.isEmpty = false := by rw [sv_toList, List.isEmpty_eq_false_iff]; exact hk
  have hlt := h.lt
  have B1 : Blk ((w.setCell ⟨n, 2, none⟩ (.string (sv key))).alloc (.cells #[.string ⟨#[]⟩, .int .i64 0, .string ⟨#[]⟩, .pointer none, .slice none 0 0] 125)) n (nodeC [] 0 key none (.slice none 0 0)) 125 := (h.set 2 (.string (sv key))).alloc _
  have d3 : ((w.setCell ⟨n, 2, none⟩ (.string (sv key))).alloc (.cells #[.string ⟨#[]⟩, .int .i64 0, .string ⟨#[]⟩, .pointer none, .slice none 0 0] 125)).cell? ⟨n, 3, none⟩ = some (.pointer none) := B1.cell 3
  have y3 := B1.frozen 3
  have hsz : (w.setCell ⟨n, 2, none⟩ (.string (sv key))).heap.size = w.heap.size := by simp [World.setCell]
  have B2 : Blk ((w.setCell ⟨n, 2, none⟩ (.string (sv key))).alloc (.cells #[.string ⟨#[]⟩, .int .i64 0, .string ⟨#[]⟩, .pointer none, .slice none 0 0] 125)) w.heap.size (nodeC [] 0 [] none (.slice none 0 0)) 125 := by
    have := Blk.new (w.setCell ⟨n, 2, none⟩ (.string (sv key))) #[.string ⟨#[]⟩, .int .i64 0, .string ⟨#[]⟩, .pointer none, .slice none 0 0] 125
    rw [hsz] at this
    exact this
  have M1 : Mod (· = n) w ((w.setCell ⟨n, 2, none⟩ (.string (sv key))).alloc (.cells #[.string ⟨#[]⟩, .int .i64 0, .string ⟨#[]⟩, .pointer none, .slice none 0 0] 125)) := (Mod.setCell (S := (· = n)) (Mod.refl _ w) (p := ⟨n, 2, none⟩) (.inl rfl) _).alloc _
  have hleaf := add_leaf w.heap.size val pr r (.slice none 0 0) _ (B2.far (p := ⟨n, 3, none⟩) (by show w.heap.size ≠ n; omega) (.pointer (some ⟨w.heap.size, 0, none⟩)))
  have B3 := B1.set 3 (.pointer (some ⟨w.heap.size, 0, none⟩))
  have M2 := Mod.setCell (S := (· = n)) M1 (p := ⟨n, 3, none⟩) (.inl rfl) (.pointer (some ⟨w.heap.size, 0, none⟩))
  have HB3 := Lib.hid B3
  have HM2 := Lib.hid M2
  have HLT := Lib.hid hlt
  clear h hk B1 B2 B3 M1 M2 hsz hlt
  go_enter Tryd.func66, Tryd.ntmps66
  go_wp2_with (fail)
  refine hleaf.mono ?_
  rintro e w' ⟨rfl, hb, hm⟩
  have HB := Lib.hid hb
  have HMM := Lib.hid hm
  clear hb hm hleaf
  go_wp2
  first | go_end0 | refine bodyPost_ret (results_none rfl _ _ _) rfl ?_
  exact ⟨rfl, HB3.out.mod HMM.out (fun e => by have := HLT.out; omega), HB.out, HM2.out.trans HMM.out (fun i hi => .inr (by omega))⟩
set_option maxRecDepth 100000 in
set_option maxHeartbeats 3200000 in
/-- At the root: its table's place is made a node, which has the rest of the key. -/
theorem add_root (g tb : Nat) (c : UInt8) (m : Nat) (key val : Bs) (pr : Int) (cs : Array Value) (ts : Array Value) (w : World) (hk : key ≠ []) (hg : Blk w g cs 127) (ht : Blk w tb ts 122) (hm : m < 5) (hts : ts[m]? = some (.pointer none)) (hsz : ts.size = 5)
    (g2 : cs[2]? = some (.string (sv []))) (g4 : cs[4]? = some (.slice (some ⟨tb, 0, none⟩) 5 5)) (gm : cs[6 + c.toNat]? = some (.int .u8 (m : Int))) :
    Calls Tryd.prog 66 #[.pointer (some ⟨g, 0, none⟩), .string (sv (c :: key)), .string (sv val), .int .i64 pr, .pointer (some ⟨g, 0, none⟩)] w fun e w' => e = .returned (.tuple #[]) ∧
      Blk w' tb (ts.setIfInBounds m (.pointer (some ⟨w.heap.size, 0, none⟩))) 122 ∧ Blk w' w.heap.size (nodeC [] 0 key (some (w.heap.size + 1)) (.slice none 0 0)) 125 ∧ Blk w' (w.heap.size + 1) (nodeC val pr [] none (.slice none 0 0)) 125 ∧ Mod (· = tb) w w' := by
  have c2 : w.cell? ⟨g, 2, none⟩ = some (.string (sv [])) := by rw [hg.cell]; exact g2
  have c4 : w.cell? ⟨g, 4, none⟩ = some (.slice (some ⟨tb, 0, none⟩) 5 5) := by rw [hg.cell]; exact g4
  have cm : w.cell? ⟨g, 6 + c.toNat, none⟩ = some (.int .u8 (m : Int)) := by rw [hg.cell]; exact gm
  have tm : w.cell? ⟨tb, m, none⟩ = some (.pointer none) := by rw [ht.cell]; exact hts
  have zm := ht.frozen m
  have heq : (sv []).toList.isEmpty = true := by rw [sv_toList]; rfl
  have hne : (sv (c :: key)).toList.isEmpty = false := by rw [sv_toList]; rfl
  have hnq := fun (w : World) (a : Option Addr) (l c : Nat) => run_neq_slice_nil (P := Tryd.prog) w 123 122 a l c Tryd.underlying123
  have hsk : (sv (c :: key)).size = key.length + 1 := sv_size (c :: key)
  have hs1 : (0 : Int) < ((sv (c :: key)).size : Int) := by rw [hsk]; omega
  have hg0 : ∀ h : 0 < (sv (c :: key)).size, (sv (c :: key))[0]'h = c := fun _ => rfl
  have hc256 : (c.toNat : Int) < 256 := by have := c.toNat_lt; omega
  have hmi : (m : Int) < 5 := by omega
  have hs2 : (1 : Int) ≤ ((sv (c :: key)).size : Int) := by rw [hsk]; omega
  have hs3 : (1 : Int) ≤ (key.length : Int) + 1 := by omega
  have hs4 : (0 : Int) ≤ (key.length : Int) := by omega
  have hx1 : (sv (c :: key)).extract 1 (key.length + 1) = sv key := by rw [sv_ext]; simp
  have hx2 : (sv (c :: key)).extract 1 (sv (c :: key)).size = sv key := by rw [hsk]; exact hx1
  have hgl := hg.lt
  have htl := ht.lt
  have hgt : g ≠ tb := Blk.ne hg ht (by decide)
  have W1 : ∀ k, Mod (fun _ => False) w ((w.drewN k).alloc (.cells #[.string ⟨#[]⟩, .int .i64 0, .string ⟨#[]⟩, .pointer none, .slice none 0 0] 125)) := fun k => ((Mod.refl _ w).drewN k).alloc _
  have tm1 : ∀ k, ((w.drewN k).alloc (.cells #[.string ⟨#[]⟩, .int .i64 0, .string ⟨#[]⟩, .pointer none, .slice none 0 0] 125)).cell? ⟨tb, m, none⟩ = some (.pointer none) := fun k => by rw [(ht.mod (W1 k) (fun h => h)).cell]; exact hts
  have zm1 : ∀ k, ((w.drewN k).alloc (.cells #[.string ⟨#[]⟩, .int .i64 0, .string ⟨#[]⟩, .pointer none, .slice none 0 0] 125)).frozen? ⟨tb, m, none⟩ = false := fun k => (ht.mod (W1 k) (fun h => h)).frozen m
  have T2 : ∀ k, Blk (((w.drewN k).alloc (.cells #[.string ⟨#[]⟩, .int .i64 0, .string ⟨#[]⟩, .pointer none, .slice none 0 0] 125)).setCell ⟨tb, m, none⟩ (.pointer (some ⟨w.heap.size, 0, none⟩))) tb (ts.setIfInBounds m (.pointer (some ⟨w.heap.size, 0, none⟩))) 122 := fun k => (ht.mod (W1 k) (fun h => h)).set m _
  have G2 : ∀ k, Blk (((w.drewN k).alloc (.cells #[.string ⟨#[]⟩, .int .i64 0, .string ⟨#[]⟩, .pointer none, .slice none 0 0] 125)).setCell ⟨tb, m, none⟩ (.pointer (some ⟨w.heap.size, 0, none⟩))) g cs 127 := fun k => (hg.mod (W1 k) (fun h => h)).far (p := ⟨tb, m, none⟩) hgt _
  have N2 : ∀ k, Blk (((w.drewN k).alloc (.cells #[.string ⟨#[]⟩, .int .i64 0, .string ⟨#[]⟩, .pointer none, .slice none 0 0] 125)).setCell ⟨tb, m, none⟩ (.pointer (some ⟨w.heap.size, 0, none⟩))) w.heap.size (nodeC [] 0 [] none (.slice none 0 0)) 125 := fun k => (Blk.new (w.drewN k) _ _).far (p := ⟨tb, m, none⟩) (by show w.heap.size ≠ tb; omega) _
  have M2 : ∀ k, Mod (· = tb) w (((w.drewN k).alloc (.cells #[.string ⟨#[]⟩, .int .i64 0, .string ⟨#[]⟩, .pointer none, .slice none 0 0] 125)).setCell ⟨tb, m, none⟩ (.pointer (some ⟨w.heap.size, 0, none⟩))) := fun k => Mod.setCell (S := (· = tb)) ((W1 k).mono (fun _ h => h.elim)) (p := ⟨tb, m, none⟩) (.inl rfl) _
  have d4 : ∀ k, (((w.drewN k).alloc (.cells #[.string ⟨#[]⟩, .int .i64 0, .string ⟨#[]⟩, .pointer none, .slice none 0 0] 125)).setCell ⟨tb, m, none⟩ (.pointer (some ⟨w.heap.size, 0, none⟩))).cell? ⟨g, 4, none⟩ = some (.slice (some ⟨tb, 0, none⟩) 5 5) := fun k => by rw [(G2 k).cell]; exact g4
  have dm : ∀ k, (((w.drewN k).alloc (.cells #[.string ⟨#[]⟩, .int .i64 0, .string ⟨#[]⟩, .pointer none, .slice none 0 0] 125)).setCell ⟨tb, m, none⟩ (.pointer (some ⟨w.heap.size, 0, none⟩))).cell? ⟨tb, m, none⟩ = some (.pointer (some ⟨w.heap.size, 0, none⟩)) := fun k => by rw [(T2 k).cell, Array.getElem?_setIfInBounds_self_of_lt (by omega)]
  have HT2 := Lib.hid T2
  have HN2 := Lib.hid N2
  have HM2 := Lib.hid M2
  clear W1 T2 G2 N2 M2 hg ht gm g2 g4 hts
  go_enter Tryd.func66, Tryd.ntmps66
  go_wp2_with (fail)
  go_quiet (fail)
  go_wp2_with (fail)
  refine still_tail 12 (by kernel_rfl) (by kernel_rfl) ?_
  simp only [List.take_succ_cons, List.take_zero, List.drop_succ_cons, List.drop_zero]
  repeat still_step
  refine wpStill_nil ?_
  go_wp2_with (fail)
  have hszq : (((w.drewN nq).alloc (.cells #[.string ⟨#[]⟩, .int .i64 0, .string ⟨#[]⟩, .pointer none, .slice none 0 0] 125)).setCell ⟨tb, m, none⟩ (.pointer (some ⟨w.heap.size, 0, none⟩))).drew.heap.size = w.heap.size + 1 := by simp [World.setCell]
  refine (add_fresh w.heap.size key val pr _ _ hk (HN2.out nq).drew).mono ?_
  rintro e w' ⟨rfl, hb1, hb2, hm⟩
  rw [hszq] at hb1 hb2
  have HA := Lib.hid hb1
  have HB := Lib.hid hb2
  have HMM := Lib.hid hm
  have HTT := Lib.hid ((HT2.out nq).drew.mod hm (fun e => by have e : tb = w.heap.size := e; omega))
  have HMT := Lib.hid (HM2.out nq).drew
  clear hb1 hb2 hm hszq
  go_wp2
  first | go_end0 | refine bodyPost_ret (results_none rfl _ _ _) rfl ?_
  exact ⟨rfl, HTT.out, HA.out, HB.out, HMT.out.trans HMM.out (fun i hi => .inr (by have hi : i = w.heap.size := hi; omega))⟩
end Go.Proofs.YtokojeiiobhciaaDoor
