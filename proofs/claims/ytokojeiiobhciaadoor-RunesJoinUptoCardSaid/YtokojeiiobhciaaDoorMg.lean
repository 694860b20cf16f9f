/-
  strings.NewReplacer's table.
-/
import Derived.Test.YtokojeiiobhciaaDoorTr
import Derived.Deep.MidRow
namespace Go.Proofs.YtokojeiiobhciaaDoor
open Go.RowKit Mem
set_option linter.unusedVariables false
set_option linter.unusedSimpArgs false

/-- The replacer's cells: its root has the table tb; the table's size; what each byte is mapped to. -/
def gL (tb : Value) (ts : Int) (M : Nat → Nat) : List Value := [.string (sv []), .int .i64 0, .string (sv []), .pointer none, tb, .int .i64 ts] ++ (List.range 256).map (fun i => .int .u8 (M i : Int))
def gC (tb : Value) (ts : Int) (M : Nat → Nat) : Array Value := (gL tb ts M).toArray
theorem gC_map (tb : Value) (ts : Int) (M : Nat → Nat) (k : Nat) (hk : k < 256) : (gC tb ts M)[6 + k]? = some (.int .u8 (M k : Int)) := by
  unfold gC gL
  rw [List.getElem?_toArray, List.getElem?_append_right (by simp), List.getElem?_map]
  simp [hk]
theorem gC_set (tb : Value) (ts : Int) (M : Nat → Nat) (k v : Nat) (hk : k < 256) : (gC tb ts M).setIfInBounds (6 + k) (.int .u8 (v : Int)) = gC tb ts (fun i => if i = k then v else M i) := by
  apply Array.toList_inj.1
  rw [Array.toList_setIfInBounds]
  show (gL tb ts M).set (6 + k) _ = gL tb ts _
  unfold gL
  rw [List.set_append_right _ _ (by simp)]
  congr 1
  apply List.ext_getElem?
  intro j
  simp only [List.length_cons, List.length_nil, List.getElem?_set, List.getElem?_map, List.length_map, List.length_range]
  by_cases hj : j < 256
  · rw [List.getElem?_range hj]
    by_cases h : 6 + k - 6 = j
    · have : j = k := by omega
      subst this
      simp [hj]
    · have : ¬ j = k := by omega
      rw [if_neg (by omega)]
      simp [this]
  · rw [List.getElem?_eq_none (by simp; omega)]
    simp
    omega
/-- The table alone. -/
def mL (M : Nat → Nat) : List Value := (List.range 256).map (fun i => .int .u8 (M i : Int))
theorem mL_len (M : Nat → Nat) : (mL M).length = 256 := by simp [mL]
theorem mL_get (M : Nat → Nat) (i : Nat) (hi : i < 256) : (mL M)[i]? = some (.int .u8 (M i : Int)) := by simp [mL, hi]
theorem gC_range {w : World} {g : Nat} {tb : Value} {ts : Int} {M : Nat → Nat} {T : TypeId} (h : Blk w g (gC tb ts M) T) : w.rangeAt g 6 (mL M) := fun j v hv => by
  have hj : j < 256 := by have := (List.getElem?_eq_some_iff.1 hv).1; rwa [mL_len] at this
  rw [h.cell, gC_map _ _ _ _ hj, ← mL_get M j hj]
  exact hv
/-- One of them, out of the table by value. -/
theorem idx_run (cs : List Value) (k b : Nat) (h : cs[k]? = some (.int .u8 (b : Int))) (hk : k < 256) (w : World) : (Instr.index 96 (.agg cs.toArray) (.int .i64 (k : Int))).run Tryd.prog w = .ok (.int .u8 (b : Int)) w := by
  have h1 : 0 ≤ (k : Int) ∧ (k : Int) < 256 := by omega
  simp [Instr.index, run_underlying Tryd.underlying96, asIntOf, h1, go_sem]
  rw [if_pos hk, h]
  rfl
def key0 : Bs := [195, 159]
def key2 : Bs := [225, 186, 158]
def ss : Bs := [115, 115]
def mark (key : Bs) (M : Nat → Nat) : Nat → Nat := key.foldl (fun M b => fun k => if k = b.toNat then 1 else M k) M
theorem gC_ts (tb : Value) (ts ts' : Int) (M : Nat → Nat) : (gC tb ts M).setIfInBounds 5 (.int .i64 ts') = gC tb ts' M := by
  apply Array.toList_inj.1
  rw [Array.toList_setIfInBounds]
  rfl
theorem gC_tb (tb tb' : Value) (ts : Int) (M : Nat → Nat) : (gC tb ts M).setIfInBounds 4 tb' = gC tb' ts M := by
  apply Array.toList_inj.1
  rw [Array.toList_setIfInBounds]
  rfl
def keyAt (i : Nat) : Bs := if i = 0 then key0 else key2
def mpAt (i : Nat) : Nat → Nat := if i = 0 then fun _ => 0 else if i = 2 then mark key0 (fun _ => 0) else mark key2 (mark key0 (fun _ => 0))
theorem mark_step (key : Bs) (M : Nat → Nat) (j : Nat) (hj : j < key.length) : mark (key.take (j + 1)) M = fun k => if k = key[j].toNat then 1 else mark (key.take j) M k := by
  unfold mark
  rw [List.take_succ_eq_append_getElem hj, List.foldl_append]
  rfl
theorem mp_next {i : Nat} (h : i = 0 ∨ i = 2) : mark (keyAt i) (mpAt i) = mpAt (i + 2) := by
  rcases h with rfl | rfl <;> rfl
theorem mp_le (i : Nat) : mpAt 4 i ≤ 1 := by
  show (fun k => if k = UInt8.toNat 158 then 1 else if k = UInt8.toNat 186 then 1 else if k = UInt8.toNat 225 then 1 else if k = UInt8.toNat 159 then 1 else if k = UInt8.toNat 195 then 1 else 0) i ≤ 1
  dsimp only
  repeat' split
  all_goals omega
def cnt (k : Nat) : Nat := ((List.range k).map (mpAt 4)).sum
theorem cnt_succ (k : Nat) : cnt (k + 1) = cnt k + mpAt 4 k := by unfold cnt; rw [List.range_succ, List.map_append, List.sum_append]; simp
theorem cnt_le (k : Nat) : cnt k ≤ k := by
  induction k with
  | zero => exact Nat.le_refl 0
  | succ k ih => rw [cnt_succ]; have := mp_le k; omega
theorem cnt_all : cnt 256 = 5 := by decide +kernel
theorem cnt_le5 : ∀ k, k ≤ 256 → cnt k ≤ 5 := by decide +kernel
/-- What is mapped when so many bytes are dealt with. -/
def gM (k i : Nat) : Nat := if i < k then (if mpAt 4 i = 0 then 5 else cnt i) else mpAt 4 i
theorem gM_zero : gM 0 = mpAt 4 := by funext i; unfold gM; rw [if_neg (by omega)]
theorem gM_succ (k : Nat) : gM (k + 1) = fun i => if i = k then (if mpAt 4 k = 0 then 5 else cnt k) else gM k i := by
  funext i
  unfold gM
  by_cases h : i = k
  · subst h; rw [if_pos (by omega), if_pos rfl]
  · rw [if_neg h]
    by_cases h2 : i < k
    · rw [if_pos (by omega), if_pos h2]
    · rw [if_neg (by omega), if_neg h2]
theorem zero_gC : Tryd.zeroCells127 = gC (.slice none 0 0) 0 (mpAt 0) := by kernel_rfl
def t0 : Array Value := #[.pointer none, .pointer none, .pointer none, .pointer none, .pointer none]
def t1 (a : Nat) : Array Value := #[.pointer none, .pointer none, .pointer none, .pointer (some ⟨a, 0, none⟩), .pointer none]
def t2 (a b : Nat) : Array Value := #[.pointer none, .pointer none, .pointer none, .pointer (some ⟨a, 0, none⟩), .pointer (some ⟨b, 0, none⟩)]
theorem make5 (w : World) : (Instr.makeSlice 123 (.int .i64 5) (.int .i64 5)).run Tryd.prog w = .ok (.slice (some ⟨w.heap.size, 0, none⟩) 5 5) (w.alloc (.cells t0 122)) := by kernel_rfl
def Node (w : World) (n : Nat) (val : Bs) (pr : Int) (pre : Bs) (nx : Option Nat) : Prop := Blk w n (nodeC val pr pre nx (.slice none 0 0)) 125
/-- The trie, when so many of the texts are laid in. -/
def StT (w : World) (g tb i : Nat) (wx : World) : Prop := Blk wx g (gC (.slice (some ⟨tb, 0, none⟩) 5 5) 5 (gM 256)) 127 ∧ Mod (fun _ => False) w wx ∧ w.heap.size ≤ tb ∧ w.heap.size ≤ g ∧
  ((i = 0 ∧ Blk wx tb t0 122) ∨
   (i = 2 ∧ ∃ n m, Blk wx tb (t1 n) 122 ∧ Node wx n [] 0 [159] (some m) ∧ Node wx m ss 4 [] none) ∨
   (i = 4 ∧ ∃ n m n' m', Blk wx tb (t2 n n') 122 ∧ Node wx n [] 0 [159] (some m) ∧ Node wx m ss 4 [] none ∧ Node wx n' [] 0 [186, 158] (some m') ∧ Node wx m' ss 2 [] none))
set_option maxRecDepth 100000 in
set_option maxHeartbeats 6400000 in
theorem make_any (o c : Nat) (rs : Array Value) (w : World) (hc4 : 4 ≤ c) (ho : Blk w o rs 9) (r0 : rs[0]? = some (.string (sv key0))) (r1 : rs[1]? = some (.string (sv ss))) (r2 : rs[2]? = some (.string (sv key2))) (r3 : rs[3]? = some (.string (sv ss))) :
    Calls Tryd.prog 60 #[.slice (some ⟨o, 0, none⟩) 4 c] w fun e w' => ∃ g tb, e = .returned (.pointer (some ⟨g, 0, none⟩)) ∧ StT w g tb 4 w' := by
  have HO := Lib.hid ho
  have hG0 : Blk (w.alloc (.cells Tryd.zeroCells127 127)) w.heap.size (gC (.slice none 0 0) 0 (mpAt 0)) 127 := by rw [← zero_gC]; exact Blk.new _ _ _
  have HG0 := Lib.hid hG0
  have HM0 : Hid (Mod (fun _ => False) w (w.alloc (.cells Tryd.zeroCells127 127))) := Lib.hid ((Mod.refl _ w).alloc _)
  obtain ⟨g, hg⟩ : ∃ g, w.heap.size = g := ⟨_, rfl⟩
  have HGE := Lib.hid hg
  rw [hg] at HG0
  clear ho hG0
  go_enter Tryd.func60, Tryd.ntmps60
  go_wp2
  go_loopw [4] (fun v wr => ∃ i : Nat, v = .int .i64 i ∧ (i = 0 ∨ i = 2 ∨ i = 4) ∧ Hid (Blk wr g (gC (.slice none 0 0) 0 (mpAt i)) 127) ∧ Hid (Mod (fun _ => False) w wr)) (fun v _ => 4 - (intOf v).toNat)
  case atStart => exact ⟨0, rfl, .inl rfl, HG0, HM0⟩
  case round =>
    obtain ⟨i, rfl, hi, G, M⟩ := hrel
    by_cases hlt : i = 0 ∨ i = 2
    · have q1 : (i : Int) < 4 := by omega
      have hO := HO.out.mod M.out (fun h => h)
      have hcell : wr.cell? ⟨o, i, none⟩ = some (.string (sv (keyAt i))) := by
        rw [hO.cell]
        rcases hlt with rfl | rfl
        · exact r0
        · exact r2
      have e9 : IntKind.i64.wrap ((i : Int) + 2) = (i : Int) + 2 := by rw [IntKind.wrap_i64]; omega
      obtain ⟨key, hkey⟩ : ∃ k, keyAt i = k := ⟨_, rfl⟩
      have hkl : key.length ≤ 3 := by rw [← hkey]; rcases hlt with rfl | rfl <;> decide
      have hnext := mp_next hlt
      rw [hkey] at hcell hnext
      have hsz : (sv key).size = key.length := sv_size key
      have HN := Lib.hid hnext
      clear hO hkey hnext
      go_wp2
      go_loopw [6] (fun v wx => ∃ j : Nat, v = .int .i64 j ∧ j ≤ key.length ∧ Hid (Blk wx g (gC (.slice none 0 0) 0 (mark (key.take j) (mpAt i))) 127) ∧ Hid (Mod (fun _ => False) w wx)) (fun v _ => key.length - (intOf v).toNat)
      case atStart => exact ⟨0, rfl, by omega, G, M⟩
      case round =>
        obtain ⟨j, rfl, hj, G1, M1⟩ := hrel
        by_cases hjl : j < key.length
        · have q2 : (j : Int) < (key.length : Int) := by omega
          obtain ⟨c, hc⟩ : ∃ c, key[j] = c := ⟨_, rfl⟩
          have hch : ∀ h : j < (sv key).size, (sv key)[j]'h = c := fun _ => hc
          have hc256 : c.toNat < 256 := c.toNat_lt
          have hci : (c.toNat : Int) < 256 := by omega
          have hcm : wr.cell? ⟨g, 6 + c.toNat, none⟩ = some (.int .u8 (mark (key.take j) (mpAt i) c.toNat : Int)) := by rw [G1.out.cell]; exact gC_map _ _ _ _ hc256
          have hcz := G1.out.frozen (6 + c.toNat)
          have hst : mark (key.take (j + 1)) (mpAt i) = fun k => if k = c.toNat then 1 else mark (key.take j) (mpAt i) k := by rw [mark_step key _ j hjl, hc]
          have G2 : Hid (Blk (wr.setCell ⟨g, 6 + c.toNat, none⟩ (.int .u8 1)).drew g (gC (.slice none 0 0) 0 (mark (key.take (j + 1)) (mpAt i))) 127) := Lib.hid (by
            have := (G1.out.set (6 + c.toNat) (.int .u8 ((1 : Nat) : Int))).drew
            rw [gC_set _ _ _ _ 1 hc256, ← hst] at this
            exact this)
          have M2 : Hid (Mod (fun _ => False) w (wr.setCell ⟨g, 6 + c.toNat, none⟩ (.int .u8 1)).drew) := Lib.hid ((M1.out.setCell (p := ⟨g, 6 + c.toNat, none⟩) (.inr (by show w.heap.size ≤ g; have := HGE.out; omega)) _).drew)
          have e8 : IntKind.i64.wrap ((j : Int) + 1) = (j : Int) + 1 := by rw [IntKind.wrap_i64]; omega
          clear hst hc
          go_wp2
          refine still_tail 7 (by kernel_rfl) (by kernel_rfl) ?_
          simp only [List.take_succ_cons, List.take_zero, List.drop_succ_cons, List.drop_zero]
          repeat still_step
          refine wpStill_nil ?_
          go_wp2
          exact ⟨⟨j + 1, by go_num, by omega, G2, M2⟩, by simp [intOf]; omega⟩
        · have q2 : ¬ (j : Int) < (key.length : Int) := by omega
          obtain rfl : j = key.length := by omega
          have G2 : Hid (Blk wr g (gC (.slice none 0 0) 0 (mpAt (i + 2))) 127) := Lib.hid (by have := G1.out; rw [List.take_length, HN.out] at this; exact this)
          go_wp2
          exact ⟨⟨i + 2, by go_num, by omega, G2, M1⟩, by simp [intOf]; omega⟩
    · have q1 : ¬ (i : Int) < 4 := by omega
      obtain rfl : i = 4 := by omega
      obtain ⟨cs, hcs⟩ : ∃ cs, mL (mpAt 4) = cs := ⟨_, rfl⟩
      have HCS := Lib.hid hcs
      have hlen : cs.length = 256 := by rw [← hcs]; exact mL_len _
      have hrng := gC_range G.out
      rw [hcs] at hrng
      clear hcs
      go_wp2
      refine wp_load_mid 96 _ rfl g 6 rfl cs _ hrng Tryd.underlying96 rfl (by rw [hlen]; kernel_rfl) ?_
      go_wp2
      have G0 : Hid (Blk wr g (gC (.slice none 0 0) ((cnt 0 : Nat) : Int) (mpAt 4)) 127) := G
      clear hrng
      go_loopw [41] (fun v wr => ∃ k : Nat, v = .int .i64 k ∧ k ≤ 256 ∧ Hid (Blk wr g (gC (.slice none 0 0) ((cnt k : Nat) : Int) (mpAt 4)) 127) ∧ Hid (Mod (fun _ => False) w wr)) (fun v _ => 256 - (intOf v).toNat)
      case atStart => exact ⟨0, rfl, by omega, G0, M⟩
      case round =>
        obtain ⟨k, rfl, hk, G1, M1⟩ := hrel
        by_cases hkl : k < 256
        · have q2 : (k : Int) < 256 := by omega
          have hb := fun w => idx_run cs k (mpAt 4 k) (by rw [← HCS.out]; exact mL_get _ k hkl) hkl w
          have hle := mp_le k
          have hcl := cnt_le k
          have hcs := cnt_succ k
          have c5 : wr.cell? ⟨g, 5, none⟩ = some (.int .i64 ((cnt k : Nat) : Int)) := by rw [G1.out.cell]; rfl
          have z5 := G1.out.frozen 5
          have e8 : IntKind.i64.wrap ((k : Int) + 1) = (k : Int) + 1 := by rw [IntKind.wrap_i64]; omega
          have G2 : Hid (Blk (wr.setCell ⟨g, 5, none⟩ (.int .i64 ((cnt (k + 1) : Nat) : Int))) g (gC (.slice none 0 0) ((cnt (k + 1) : Nat) : Int) (mpAt 4)) 127) := Lib.hid (by
            have := G1.out.set 5 (.int .i64 ((cnt (k + 1) : Nat) : Int))
            rw [gC_ts] at this
            exact this)
          have M2 : Hid (Mod (fun _ => False) w (wr.setCell ⟨g, 5, none⟩ (.int .i64 ((cnt (k + 1) : Nat) : Int)))) := Lib.hid (M1.out.setCell (p := ⟨g, 5, none⟩) (.inr (by show w.heap.size ≤ g; have := HGE.out; omega)) _)
          obtain ⟨bk, hbk⟩ : ∃ b, mpAt 4 k = b := ⟨_, rfl⟩
          obtain ⟨ck, hck⟩ : ∃ c, cnt k = c := ⟨_, rfl⟩
          rw [hbk] at hb hle
          rw [hck] at c5 hcl
          have e7 : IntKind.i64.wrap ((ck : Int) + (bk : Int)) = ((cnt (k + 1) : Nat) : Int) := by rw [IntKind.wrap_i64, hcs, hck, hbk]; omega
          have e6 : IntKind.i64.wrap (bk : Int) = (bk : Int) := by rw [IntKind.wrap_i64]; omega
          clear hcs hbk hck
          go_wp2
          exact ⟨⟨k + 1, by go_num, by omega, G2, M2⟩, by simp [intOf]; omega⟩
        · have q2 : ¬ (k : Int) < 256 := by omega
          obtain rfl : k = 256 := by omega
          have G2 : Hid (Blk wr g (gC (.slice none 0 0) 5 (gM 0)) 127) := Lib.hid (by have := G1.out; rw [cnt_all, ← gM_zero] at this; exact this)
          have hrng2 : wr.rangeAt g 6 cs := by have := gC_range G1.out; rw [HCS.out] at this; exact this
          go_wp2
          refine wp_load_mid 96 _ rfl g 6 rfl cs _ hrng2 Tryd.underlying96 rfl (by rw [hlen]; kernel_rfl) ?_
          go_wp2
          clear hrng2
          have G3' : Hid (Blk wr g (gC (.slice none 0 0) 5 (gM 0)) 127) := G2
          go_loopw [9, 58] (fun ix v wr => ∃ k : Nat, ix = .int .u8 ((cnt k : Nat) : Int) ∧ v = .int .i64 k ∧ k ≤ 256 ∧ Hid (Blk wr g (gC (.slice none 0 0) 5 (gM k)) 127) ∧ Hid (Mod (fun _ => False) w wr)) (fun _ v _ => 256 - (intOf v).toNat)
          case atStart => exact ⟨0, rfl, rfl, by omega, G3', M1⟩
          case round =>
            obtain ⟨k, rfl, rfl, hk, G3, M3⟩ := hrel
            by_cases hkl : k < 256
            · have q2 : (k : Int) < 256 := by omega
              have hb := fun w => idx_run cs k (mpAt 4 k) (by rw [← HCS.out]; exact mL_get _ k hkl) hkl w
              have hle := mp_le k
              have hcl := cnt_le5 k hk
              have hcs := cnt_succ k
              have c5 : wr.cell? ⟨g, 5, none⟩ = some (.int .i64 5) := by rw [G3.out.cell]; rfl
              have c6 : wr.cell? ⟨g, 6 + k, none⟩ = some (.int .u8 (gM k k : Int)) := by rw [G3.out.cell]; exact gC_map _ _ _ _ hkl
              have z6 := G3.out.frozen (6 + k)
              have e8 : IntKind.i64.wrap ((k : Int) + 1) = (k : Int) + 1 := by rw [IntKind.wrap_i64]; omega
              have hsetM : ∀ u, Mod (fun _ => False) w (wr.setCell ⟨g, 6 + k, none⟩ u).drew := fun u => (M3.out.setCell (p := ⟨g, 6 + k, none⟩) (.inr (by show w.heap.size ≤ g; have := HGE.out; omega)) _).drew
              by_cases hb0 : mpAt 4 k = 0
              · rw [hb0] at hb
                have hcs' : cnt (k + 1) = cnt k := by omega
                have G4 : Hid (Blk (wr.setCell ⟨g, 6 + k, none⟩ (.int .u8 5)).drew g (gC (.slice none 0 0) 5 (gM (k + 1))) 127) := Lib.hid (by
                  have := (G3.out.set (6 + k) (.int .u8 ((5 : Nat) : Int))).drew
                  rw [gC_set _ _ _ _ 5 hkl] at this
                  have e : (fun i => if i = k then 5 else gM k i) = gM (k + 1) := by rw [gM_succ, if_pos hb0]
                  rw [e] at this
                  exact this)
                have M4 := Lib.hid (hsetM (.int .u8 5))
                have HC := Lib.hid hcs'
                clear hcs hcs' hsetM hb0 hle
                go_wp2
                refine still_tail 10 (by kernel_rfl) (by kernel_rfl) ?_
                simp only [List.take_succ_cons, List.take_zero, List.drop_succ_cons, List.drop_zero]
                repeat still_step
                refine wpStill_nil ?_
                go_wp2
                exact ⟨⟨k + 1, by rw [HC.out], by go_num, by omega, G4, M4⟩, by simp [intOf]; omega⟩
              · have hb1 : mpAt 4 k = 1 := by omega
                rw [hb1] at hb
                have hcs' : cnt (k + 1) = cnt k + 1 := by omega
                obtain ⟨ck, hck⟩ : ∃ c, cnt k = c := ⟨_, rfl⟩
                have G4 : Hid (Blk (wr.setCell ⟨g, 6 + k, none⟩ (.int .u8 (ck : Int))) g (gC (.slice none 0 0) 5 (gM (k + 1))) 127) := Lib.hid (by
                  have := G3.out.set (6 + k) (.int .u8 (ck : Int))
                  rw [gC_set _ _ _ _ ck hkl] at this
                  have e : (fun i => if i = k then ck else gM k i) = gM (k + 1) := by rw [gM_succ, if_neg hb0, hck]
                  rw [e] at this
                  exact this)
                have M4 : Hid (Mod (fun _ => False) w (wr.setCell ⟨g, 6 + k, none⟩ (.int .u8 (ck : Int)))) := Lib.hid (M3.out.setCell (p := ⟨g, 6 + k, none⟩) (.inr (by show w.heap.size ≤ g; have := HGE.out; omega)) _)
                rw [hck] at hcl
                have e7 : IntKind.u8.wrap ((ck : Int) + 1) = ((cnt (k + 1) : Nat) : Int) := by rw [IntKind.wrap_u8, hcs', hck]; omega
                rw [hck]
                clear hcs hcs' hsetM hb0 hle hck hb1
                go_wp2
                exact ⟨⟨k + 1, (by first | rfl | rw [e7]), by go_num, by omega, G4, M4⟩, by simp [intOf]; omega⟩
            · have q2 : ¬ (k : Int) < 256 := by omega
              obtain rfl : k = 256 := by omega
              have c5 : wr.cell? ⟨g, 5, none⟩ = some (.int .i64 5) := by rw [G3.out.cell]; rfl
              have c4 : wr.cell? ⟨g, 4, none⟩ = some (.slice none 0 0) := by rw [G3.out.cell]; rfl
              have z4 := G3.out.frozen 4
              have hmk := make5 wr
              have G5 := (G3.out.alloc (.cells t0 122)).set 4 (.slice (some ⟨wr.heap.size, 0, none⟩) 5 5)
              rw [gC_tb] at G5
              have hgl := G3.out.lt
              have T5 := (Blk.new wr t0 122).far (p := ⟨g, 4, none⟩) (by show wr.heap.size ≠ g; omega) (.slice (some ⟨wr.heap.size, 0, none⟩) 5 5)
              have M5 : Mod (fun _ => False) w ((wr.alloc (.cells t0 122)).setCell ⟨g, 4, none⟩ (.slice (some ⟨wr.heap.size, 0, none⟩) 5 5)) := (M3.out.alloc _).setCell (p := ⟨g, 4, none⟩) (.inr (by show w.heap.size ≤ g; have := HGE.out; omega)) _
              have c41 : (wr.alloc (.cells t0 122)).cell? ⟨g, 4, none⟩ = some (.slice none 0 0) := by rw [(G3.out.alloc _).cell]; rfl
              have z41 := (G3.out.alloc (.cells t0 122)).frozen 4
              obtain ⟨tb, htb⟩ : ∃ tb, wr.heap.size = tb := ⟨_, rfl⟩
              have HS : Hid (StT w g tb 0 ((wr.alloc (.cells t0 122)).setCell ⟨g, 4, none⟩ (.slice (some ⟨tb, 0, none⟩) 5 5))) := Lib.hid (by
                rw [← htb]
                exact ⟨G5, M5, M3.out.size, by have := HGE.out; omega, .inl ⟨rfl, T5⟩⟩)
              rw [htb] at hmk
              clear G5 T5 M5 htb hgl
              go_wp2
              go_loopw [12] (fun v wr => ∃ i : Nat, v = .int .i64 i ∧ (i = 0 ∨ i = 2 ∨ i = 4) ∧ Hid (StT w g tb i wr)) (fun v _ => 4 - (intOf v).toNat)
              case atStart => exact ⟨0, rfl, .inl rfl, HS⟩
              case round =>
                obtain ⟨i, rfl, hi, S⟩ := hrel
                rcases hi with rfl | rfl | rfl
                · obtain ⟨Sg, Sm, Stb, Sgg, Sc⟩ := S.out
                  have hO := HO.out.mod Sm (fun h => h)
                  have o0 : wr.cell? ⟨o, 0, none⟩ = some (.string (sv (195 :: [159]))) := by rw [hO.cell]; exact r0
                  have o1 : wr.cell? ⟨o, 1, none⟩ = some (.string (sv ss)) := by rw [hO.cell]; exact r1
                  have w1 : IntKind.i64.wrap ((0 : Int) + 1) = 1 := by decide
                  have w2 : IntKind.i64.wrap (1 : Int) = 1 := by decide
                  have w3 : IntKind.i64.wrap ((4 : Int) - 0) = 4 := by decide
                  have w4 : IntKind.i64.wrap (4 : Int) = 4 := by decide
                  have w5 : IntKind.i64.wrap ((0 : Int) + 2) = 2 := by decide
                  have w6 : IntKind.i64.wrap (2 : Int) = 2 := by decide
                  have hT0 : Blk wr tb t0 122 := by
                    rcases Sc with ⟨_, h⟩ | ⟨h, _⟩ | ⟨h, _⟩
                    · exact h
                    · omega
                    · omega
                  have hadd := add_root g tb 195 3 [159] ss 4 _ _ wr.drew (by decide) Sg.drew hT0.drew (by decide) rfl rfl rfl rfl (by rw [gC_map _ _ _ _ (by decide)]; rfl)
                  have HSG := Lib.hid Sg
                  have HSM := Lib.hid Sm
                  have HT := Lib.hid hT0
                  clear Sg Sm Sc hO hT0
                  go_wp2
                  refine still_tail 17 (by kernel_rfl) (by kernel_rfl) ?_
                  simp only [List.take_succ_cons, List.take_zero, List.drop_succ_cons, List.drop_zero]
                  repeat still_step
                  refine wpStill_nil ?_
                  go_wp2_with (fail)
                  refine hadd.mono ?_
                  rintro e w' ⟨rfl, h1, h2, h3, hm⟩
                  have hgt : ¬ g = tb := Blk.ne HSG.out HT.out (by decide)
                  have HS2 : Hid (StT w g tb 2 w') := Lib.hid ⟨HSG.out.drew.mod hm hgt, HSM.out.drew.trans hm (fun j hj => .inr (by have hj : j = tb := hj; omega)), Stb, Sgg, .inr (.inl ⟨rfl, _, _, h1, h2, h3⟩)⟩
                  clear h1 h2 h3 hm hadd hgt
                  go_wp2
                  exact ⟨⟨2, by go_num, .inr (.inl rfl), HS2⟩, by simp [intOf]⟩
                · obtain ⟨Sg, Sm, Stb, Sgg, Sc⟩ := S.out
                  have hO := HO.out.mod Sm (fun h => h)
                  have o0 : wr.cell? ⟨o, 2, none⟩ = some (.string (sv (225 :: [186, 158]))) := by rw [hO.cell]; exact r2
                  have o1 : wr.cell? ⟨o, 3, none⟩ = some (.string (sv ss)) := by rw [hO.cell]; exact r3
                  have w1 : IntKind.i64.wrap ((2 : Int) + 1) = 3 := by decide
                  have w2 : IntKind.i64.wrap (3 : Int) = 3 := by decide
                  have w3 : IntKind.i64.wrap ((4 : Int) - 2) = 2 := by decide
                  have w4 : IntKind.i64.wrap (2 : Int) = 2 := by decide
                  have w5 : IntKind.i64.wrap ((2 : Int) + 2) = 4 := by decide
                  have w6 : IntKind.i64.wrap (4 : Int) = 4 := by decide
                  obtain ⟨n, m, hT0, hN1, hN2⟩ : ∃ n m, Blk wr tb (t1 n) 122 ∧ Node wr n [] 0 [159] (some m) ∧ Node wr m ss 4 [] none := by
                    rcases Sc with ⟨h, _⟩ | ⟨_, n, m, h⟩ | ⟨h, _⟩
                    · omega
                    · exact ⟨n, m, h⟩
                    · omega
                  have hadd := add_root g tb 225 4 [186, 158] ss 2 _ _ wr.drew (by decide) Sg.drew hT0.drew (by decide) rfl rfl rfl rfl (by rw [gC_map _ _ _ _ (by decide)]; rfl)
                  have HN1 := Lib.hid hN1
                  have HN2 := Lib.hid hN2
                  have HSG := Lib.hid Sg
                  have HSM := Lib.hid Sm
                  have HT := Lib.hid hT0
                  clear Sg Sm Sc hO hT0 hN1 hN2
                  go_wp2
                  refine still_tail 17 (by kernel_rfl) (by kernel_rfl) ?_
                  simp only [List.take_succ_cons, List.take_zero, List.drop_succ_cons, List.drop_zero]
                  repeat still_step
                  refine wpStill_nil ?_
                  go_wp2_with (fail)
                  refine hadd.mono ?_
                  rintro e w' ⟨rfl, h1, h2, h3, hm⟩
                  have hgt : ¬ g = tb := Blk.ne HSG.out HT.out (by decide)
                  have hne : ∀ x v pr pre nx, Node wr x v pr pre nx → ¬ x = tb := fun x v pr pre nx hx => Blk.ne hx HT.out (by decide)
                  have HS4 : Hid (StT w g tb 4 w') := Lib.hid ⟨HSG.out.drew.mod hm hgt, HSM.out.drew.trans hm (fun j hj => .inr (by have hj : j = tb := hj; omega)), Stb, Sgg, .inr (.inr ⟨rfl, n, m, _, _, h1, Blk.mod HN1.out.drew hm (hne _ _ _ _ _ HN1.out), Blk.mod HN2.out.drew hm (hne _ _ _ _ _ HN2.out), h2, h3⟩)⟩
                  clear h1 h2 h3 hm hadd hgt hne
                  go_wp2
                  exact ⟨⟨4, by go_num, .inr (.inr rfl), HS4⟩, by simp [intOf]⟩
                · go_wp2
                  go_ret
                  exact ⟨g, tb, rfl, S.out⟩
end Go.Proofs.YtokojeiiobhciaaDoor
