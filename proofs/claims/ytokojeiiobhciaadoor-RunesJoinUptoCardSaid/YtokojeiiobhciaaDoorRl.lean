/-
  (*genericReplacer).lookup, of what the four texts built.
-/
import Derived.Test.YtokojeiiobhciaaDoorRb
import Derived.Test.YtokojeiiobhciaaDoorShelf
import Derived.LaidEqlPtr
namespace Go.Proofs.YtokojeiiobhciaaDoor
open Go.RowKit Mem
set_option linter.unusedVariables false
set_option linter.unusedSimpArgs false

set_option maxRecDepth 100000 in
set_option maxHeartbeats 1600000 in
theorem lookup_nil (g tb : Nat) (ig : Bool) (w : World) (hT : Tri w g tb) :
    Calls Tryd.prog 105 #[.pointer (some ⟨g, 0, none⟩), .string (sv []), .bool ig] w fun e w' => e = .returned (.tuple #[.string (sv []), .int .i64 0, .bool false]) ∧ w' = w := by
  obtain ⟨hg, n, m, n', m', hb, hn, hm, hn', hm'⟩ := hT
  have c1 : w.cell? ⟨g, 1, none⟩ = some (.int .i64 0) := hg.cell 1
  have heq : (sv []).toList.isEmpty = true := by rw [sv_toList]; rfl
  clear hg hb hn hm hn' hm'
  go_enter Tryd.func105, Tryd.ntmps105
  go_wp2_with (fail)
  go_loopw [1, 6, 7, 8, 9, 10, 11] (fun v1 v6 v7 v8 v9 v10 v11 wr => v1 = .string (sv []) ∧ v6 = .string (sv []) ∧ v7 = .int .i64 0 ∧ v8 = .bool false ∧ v9 = .int .i64 0 ∧ v10 = .pointer (some ⟨g, 0, none⟩) ∧ v11 = .int .i64 0 ∧ wr = w) (fun _ _ _ _ _ _ _ _ => 0)
  case atStart => exact ⟨rfl, rfl, rfl, rfl, rfl, rfl, rfl, rfl⟩
  case round =>
    obtain ⟨rfl, rfl, rfl, rfl, rfl, rfl, rfl, rfl⟩ := hrel
    go_wp2_with (fail)
    go_ret3
    exact ⟨rfl, rfl⟩
def blkOf : Value → Nat
  | .pointer (some a) => a.block
  | _ => 0
theorem node_info : ∃ j, Tryd.prog.info? 125 = some j ∧ j.size ≠ 0 := by
  have h : (Tryd.prog.info? 125).map (·.size) = some 5 := by kernel_rfl
  cases e : Tryd.prog.info? 125 with
  | none => rw [e] at h; cases h
  | some j => rw [e] at h; exact ⟨j, rfl, by simp at h; omega⟩
/-- What lookup says. -/
def lkV (b : Bool) : Bs := if b then ss else []
def lkN (b : Bool) (n : Nat) : Nat := if b then 1 + n else 0
set_option maxRecDepth 100000 in
set_option maxHeartbeats 3200000 in
/-- A text that begins with a byte of which the root's table has a node. -/
theorem lookup_row (g tb : Nat) (c : UInt8) (l pre : Bs) (p0 : UInt8) (pre' : Bs) (hpre : pre = p0 :: pre') (pr : Int) (hpr : 0 < pr) (n m k : Nat) (ts : Array Value) (ig : Bool) (w : World)
    (hg : Blk w g (gC (.slice (some ⟨tb, 0, none⟩) 5 5) 5 (gM 256)) 127) (hb : Blk w tb ts 122) (hk : k < 5) (hck : gM 256 c.toNat = k) (hts : ts[k]? = some (.pointer (some ⟨n, 0, none⟩))) (hsz : ts.size = 5)
    (hn : Node w n [] 0 pre (some m)) (hm : Node w m ss pr [] none) (hlen : pre.length < 1000) (B : Bool) (hB : pre.isPrefixOf l = B) :
    Calls Tryd.prog 105 #[.pointer (some ⟨g, 0, none⟩), .string (sv (c :: l)), .bool ig] w fun e w' => e = .returned (.tuple #[.string (sv (lkV B)), .int .i64 (lkN B pre.length : Nat), .bool B]) ∧ Dr w w' := by
  have hc256 : c.toNat < 256 := c.toNat_lt
  have c1 : w.cell? ⟨g, 1, none⟩ = some (.int .i64 0) := hg.cell 1
  have c4 : w.cell? ⟨g, 4, none⟩ = some (.slice (some ⟨tb, 0, none⟩) 5 5) := hg.cell 4
  have c5 : w.cell? ⟨g, 5, none⟩ = some (.int .i64 5) := hg.cell 5
  have cm : w.cell? ⟨g, 6 + c.toNat, none⟩ = some (.int .u8 (k : Int)) := by rw [hg.cell, gC_map _ _ _ _ hc256, hck]
  have tk : w.cell? ⟨tb, k, none⟩ = some (.pointer (some ⟨n, 0, none⟩)) := by rw [hb.cell]; exact hts
  have n1 : w.cell? ⟨n, 1, none⟩ = some (.int .i64 0) := hn.cell 1
  have n2 : w.cell? ⟨n, 2, none⟩ = some (.string (sv pre)) := hn.cell 2
  have n3 : w.cell? ⟨n, 3, none⟩ = some (.pointer (some ⟨m, 0, none⟩)) := hn.cell 3
  have n4 : w.cell? ⟨n, 4, none⟩ = some (.slice none 0 0) := hn.cell 4
  have m0 : w.cell? ⟨m, 0, none⟩ = some (.string (sv ss)) := hm.cell 0
  have m1 : w.cell? ⟨m, 1, none⟩ = some (.int .i64 pr) := hm.cell 1
  have m2 : w.cell? ⟨m, 2, none⟩ = some (.string (sv [])) := hm.cell 2
  have m4 : w.cell? ⟨m, 4, none⟩ = some (.slice none 0 0) := hm.cell 4
  have hmg : ¬ m = g := Blk.ne hm hg (by decide)
  have hng : ¬ n = g := Blk.ne hn hg (by decide)
  have hmn : ¬ m = n := fun e => by rw [e, n1] at m1; simp at m1; omega
  have hpq : ∀ q, (binOp .eql 122 (.pointer (some ⟨m, 0, none⟩)) (.pointer (some ⟨g, 0, none⟩))).run Tryd.prog (w.drewN q) = .ok (.bool false) (w.drewN q) := fun q => by
    obtain ⟨j, hj, hjs⟩ := node_info
    exact run_eql_ptr_other (a := ⟨m, 0, none⟩) (b := ⟨g, 0, none⟩) (w.drewN q) Tryd.underlying122 hj hjs (fun e => hmg (congrArg Addr.block e)) hm hg
  have heq : (sv []).toList.isEmpty = true := by rw [sv_toList]; rfl
  have hki : (k : Int) < 5 := by omega
  have hci : (c.toNat : Int) < 256 := by omega
  have hel : ∀ a : Bs, (sv a).toList.isEmpty = a.isEmpty := fun a => by rw [sv_toList]
  have hpe : (sv pre).toList.isEmpty = false := by rw [sv_toList, hpre]; rfl
  have hcl : (sv (c :: l)).toList.isEmpty = false := by rw [sv_toList]; rfl
  have hnq := fun (w : World) (a : Option Addr) (l c : Nat) => run_neq_slice_nil (P := Tryd.prog) w 123 122 a l c Tryd.underlying123
  have hhp := fun (l' : Bs) (w : World) => Tryd.strings_HasPrefix (sv l') (sv pre) w
  have hle : B = true → pre.length ≤ l.length := fun h => by subst h; exact (List.isPrefixOf_iff_prefix.1 hB).length_le
  have hle' : l = [] → B = false := fun h => by rw [← hB, h, hpre]; rfl
  have hpn : pre.length = pre'.length + 1 := by rw [hpre]; rfl
  have hk5 : ¬ (k : Int) = 5 := by omega
  have hsk : (sv (c :: l)).size = l.length + 1 := sv_size (c :: l)
  have hs1 : (0 : Int) < ((sv (c :: l)).size : Int) := by rw [hsk]; omega
  have hg0 : ∀ h : 0 < (sv (c :: l)).size, (sv (c :: l))[0]'h = c := fun _ => rfl
  have hx1 : (sv (c :: l)).extract 1 (l.length + 1) = sv l := by rw [sv_ext]; simp
  have hx2 : (sv l).extract (pre'.length + 1) l.length = sv (l.drop pre.length) := by rw [sv_ext, hpn]; simp
  have hsp : (sv pre).size = pre.length := rfl
  have hsl : (sv l).size = l.length := rfl
  have hpie : pre.isEmpty = false := by rw [hpre]; rfl
  have HP := Lib.hid hpre
  clear hg hb hn hm hpre
  go_enter Tryd.func105, Tryd.ntmps105
  go_wp2_with (fail)
  go_loopw [1, 6, 7, 8, 9, 10, 11] (fun v1 v6 v7 v8 v9 v10 v11 wr => v6 = .string (sv []) ∧ v7 = .int .i64 0 ∧ v8 = .bool false ∧ v9 = .int .i64 0 ∧ ((wr = w ∧ v1 = .string (sv (c :: l)) ∧ v10 = .pointer (some ⟨g, 0, none⟩) ∧ v11 = .int .i64 0) ∨ ((∃ k, wr = w.drewN k) ∧ v1 = .string (sv l) ∧ v10 = .pointer (some ⟨n, 0, none⟩) ∧ v11 = .int .i64 1) ∨ (∃ k l', wr = w.drewN k ∧ v1 = .string (sv l') ∧ v10 = .pointer (some ⟨m, 0, none⟩) ∧ v11 = .int .i64 ((1 + pre.length : Nat) : Int) ∧ B = true))) (fun _ _ _ _ _ v _ _ => if blkOf v = g then 2 else if blkOf v = n then 1 else 0)
  case atStart => exact ⟨rfl, rfl, rfl, rfl, .inl ⟨rfl, rfl, rfl, rfl⟩⟩
  case round =>
    obtain ⟨rfl, rfl, rfl, rfl, hst⟩ := hrel
    rcases hst with ⟨rfl, rfl, rfl, rfl⟩ | ⟨⟨q, rfl⟩, rfl, rfl, rfl⟩ | ⟨q, l', rfl, rfl, rfl, rfl, rfl⟩
    · go_wp2_with (fail)
      go_quiet (fail)
      go_wp2_with (fail)
      refine ⟨⟨rfl, rfl, rfl, rfl, .inr (.inl ⟨⟨_, rfl⟩, rfl, rfl, rfl⟩)⟩, ?_⟩
      simp [blkOf, hng]
    · go_wp2_with (fail)
      · have hB0 := hle' (List.isEmpty_iff.1 ‹_›)
        subst hB0
        go_ret3
        exact ⟨rfl, _, rfl⟩
      · refine (hhp l _).mono ?_
        rintro e w' ⟨rfl, rfl⟩
        have hpp : Lib.hasPrefix (sv l).data.toList (sv pre).data.toList = B := hB
        rw [hpp]
        cases B with
        | false =>
          go_wp2_with (fail)
          go_ret3
          exact ⟨rfl, _, rfl⟩
        | true =>
          have hle1 := hle rfl
          have hle2 : (pre.length : Int) ≤ (l.length : Int) := by omega
          go_wp2_with (fail)
          refine ⟨⟨rfl, rfl, rfl, rfl, .inr (.inr ⟨_, _, rfl, rfl, rfl, by rw [hpn]; simp, trivial⟩)⟩, ?_⟩
          simp [blkOf, hng, hmn, hmg]
    · go_wp2_with (fail)
      all_goals
        go_ret3
        refine ⟨?_, _, rfl⟩
        simp only [lkV, lkN, if_true]
        simp
end Go.Proofs.YtokojeiiobhciaaDoor
