/-
  The bytes that a replacer writes.
-/
import Derived.Test.YtokojeiiobhciaaDoorRl
import Derived.Deep.AppendSrc
import Derived.WalkKit
import Derived.OwnWalk
namespace Go.Proofs.YtokojeiiobhciaaDoor
open Go.RowKit Mem
set_option linter.unusedVariables false
set_option linter.unusedSimpArgs false

def bts (l : Bs) : List Value := l.map fun b => .int .u8 (b.toNat : Int)
theorem bts_len (l : Bs) : (bts l).length = l.length := by simp [bts]
theorem bts_app (l m : Bs) : bts (l ++ m) = bts l ++ bts m := by simp [bts]
theorem byteCells_sv (m : Bs) : Go.byteCells (sv m) = bts m := rfl
theorem info_u8 : (Tryd.prog.info? 5).map (fun i => (i.zero, i.size, i.bytes)) = some (some (.int .u8 0), 1, 1) := by kernel_rfl
/-- What has been written so far. -/
def Fb (w : World) (v : Value) (l : Bs) (g : Nat) : Prop := ∃ cap cur, v = .slice (some ⟨g, 0, none⟩) l.length cap ∧ Blk w g cur 5 ∧ l.length ≤ cap ∧ cap ≤ maxLen ∧ cap ≤ cur.size ∧ cur.toList.take l.length = bts l
theorem Fb.app {w : World} {v : Value} {l m : Bs} {g : Nat} (h : Fb w v l g) (hl : l.length + m.length ≤ 140737488355328) :
    ∃ a c w', (Builtin.append_ #[155, 9] 155 #[v, .string (sv m)]).run Tryd.prog w = .ok (.slice a (l.length + m.length) c) w' ∧ ∃ g', Fb w' (.slice a (l.length + m.length) c) (l ++ m) g' ∧ Mod (fun k => k = g) w w' ∧ (g' = g ∨ w.heap.size ≤ g') := by
  obtain ⟨i, hi, hz0, hz1, hz2⟩ := info_parts info_u8
  obtain ⟨cap, cur, rfl, hB, hlc, hcm, hcs, htk⟩ := h
  have ht := Tryd.underlying155
  have hlen : (l ++ m).length = l.length + m.length := List.length_append ..
  have hsrc : ∀ w, Src Tryd.prog i.size 9 (.string (sv m)) m.length (bts m) w := fun w => by rw [hz1]; exact Src.ofString w Tryd.underlying9 (sv m)
  by_cases hroom : l.length + m.length ≤ cap
  · have hrun := run_append_room_src (P := Tryd.prog) w 155 9 155 5 i ht hi g 0 l.length cap (.string (sv m)) m.length (bts m) (hsrc w) hroom
      (fun j hj => by
        rw [bts_len] at hj
        rw [hB.cell, hz1, Array.getElem?_eq_getElem (by omega)]; rfl)
      (fun j hj => hB.frozen _)
    rw [hz1, Nat.zero_add, Nat.mul_one] at hrun
    refine ⟨_, _, _, hrun, g, ⟨cap, _, by rw [hlen], hB.setCells (bts m) l.length (by rw [bts_len]; omega), by omega, hcm, by rw [spl_size _ _ _ (by rw [bts_len]; omega)]; exact hcs, ?_⟩, Mod.setCells _ _ (Mod.refl _ w) (.inl rfl), .inl rfl⟩
    rw [spl_list, htk, ← bts_app, ← bts_len (l ++ m)]
    exact List.take_left
  · have hrun := run_append_grow_src (P := Tryd.prog) w 155 9 155 5 i (.int .u8 0) ht hi hz0 (some ⟨g, 0, none⟩) l.length cap (bts l)
      (by
        rw [hz1]
        exact run_firstCells_some w.drew 1 l.length ⟨g, 0, none⟩ l.length cap (bts l) (by rw [bts_len, Nat.mul_one]) (fun j u hu => by
          rw [Addr.add_lit, Nat.zero_add]
          have e1 : w.drew.cell? ⟨g, j, none⟩ = w.cell? ⟨g, j, none⟩ := rfl
          rw [e1, hB.cell]
          have hj : j < l.length := by have := (List.getElem?_eq_some_iff.1 hu).1; rwa [bts_len] at this
          rw [← htk, List.getElem?_take_of_lt hj] at hu
          simpa using hu))
      (.string (sv m)) m.length (bts m) (hsrc w) (by omega) (by omega) (by rw [hz2]; exact growslice_fits (by omega) (by omega))
    have hge := grownCap_ge w (l.length + m.length) cap 5
    have hcm2 := grownCap_le_maxLen w (l.length + m.length) cap 5 (by unfold maxLen; omega)
    refine ⟨_, _, _, hrun, w.heap.size, ⟨_, _, by rw [hlen], Blk.new w.drew _ 5, by rw [hlen]; exact hge, hcm2, ?_, ?_⟩, (Mod.refl _ w).drew.alloc _, .inr (Nat.le_refl _)⟩
    · simp only [Array.size_append, List.size_toArray, size_zeroCells, List.length_append, bts_len]
      have : (Value.int IntKind.u8 0).cells.size = 1 := rfl
      rw [this]
      omega
    · simp only [Array.toList_append]
      rw [← bts_app, ← bts_len (l ++ m)]
      exact List.take_left
/-- The writer, in memory that is new since a world. -/
def Bf (w0 w : World) (bf : Nat) (l : Bs) : Prop := Mod (fun _ => False) w0 w ∧ w0.heap.size ≤ bf ∧ ∃ g v, w0.heap.size ≤ g ∧ Blk w bf #[v] 155 ∧ Fb w v l g
set_option maxRecDepth 100000 in
set_option maxHeartbeats 1600000 in
theorem asw_any (w0 : World) (bf : Nat) (w : World) (l s : Bs) (h : Bf w0 w bf l) (hl : l.length + s.length ≤ 140737488355328) :
    Calls Tryd.prog 119 #[.pointer (some ⟨bf, 0, none⟩), .string (sv s)] w fun e w' => e = .returned (.tuple #[.int .i64 (s.length : Int), .nilIface]) ∧ Bf w0 w' bf (l ++ s) := by
  obtain ⟨hm, hbf, g, v, hg, hB, hF⟩ := h
  have hgb : g ≠ bf := by obtain ⟨_, _, _, hh, _⟩ := hF; exact Blk.ne hh hB (by decide)
  have c0 : w.cell? ⟨bf, 0, none⟩ = some v := hB.cell 0
  obtain ⟨a, c, w1, hrun, g', hF', hm1, hg1⟩ := hF.app hl
  have hB1 : Blk w1 bf #[v] 155 := hB.mod hm1 (fun e => hgb e.symm)
  have z1 := hB1.frozen 0
  have d1 : w1.cell? ⟨bf, 0, none⟩ = some v := hB1.cell 0
  have hsz : ((sv s).size : Int) = (s.length : Int) := rfl
  have HH := Lib.hid (And.intro hm (And.intro hB1 (And.intro hF' (And.intro hm1 hg1))))
  obtain ⟨cp, cu, rfl, _⟩ := hF
  clear hm hB hF' hm1 hg1 hB1
  go_enter Tryd.func119, Tryd.ntmps119
  go_wp2_with (at_builtin; refine wpList_append_run rfl _ _ 155 9 rfl _ _ rfl rfl hrun ?_)
  go_ret2
  obtain ⟨hm, hB1, hF', hm1, hg1⟩ := HH.out
  have hgw : w0.heap.size ≤ g' := by
    rcases hg1 with e | e
    · omega
    · exact Nat.le_trans hm.size e
  have hne : g' ≠ bf := by obtain ⟨_, _, _, hh, _⟩ := hF'; exact Blk.ne hh hB1 (by decide)
  have hm2 : Mod (· = bf) w1 (w1.setCell ⟨bf, 0, none⟩ (.slice a (l.length + s.length) c)) := Mod.setCell (S := (· = bf)) (Mod.refl _ w1) (p := ⟨bf, 0, none⟩) (.inl rfl) _
  refine ⟨rfl, (hm.trans hm1 (fun i hi => .inr (by rw [hi]; exact hg))).trans hm2 (fun i hi => .inr (by rw [hi]; exact hbf)), hbf, g', _, hgw, hB1.set 0 _, ?_⟩
  obtain ⟨cap, cur, hv, hh, r⟩ := hF'
  exact ⟨cap, cur, hv, hh.mod hm2 hne, r⟩
theorem assert_sw (v : Value) (w : World) : (Instr.typeAssert (.iface 156 v) 158 160 true).run Tryd.prog w = .ok (.tuple #[.iface 156 v, .bool true]) w := by kernel_rfl
set_option maxRecDepth 100000 in
set_option maxHeartbeats 1600000 in
theorem sw_any (v : Value) (w : World) :
    Calls Tryd.prog 104 #[.iface 156 v] w fun e w' => e = .returned (.iface 156 v) ∧ w' = w := by
  have h1 := assert_sw v w
  go_enter Tryd.func104, Tryd.ntmps104
  go_wp2
  go_ret
  exact ⟨rfl, rfl⟩
/-- What a text becomes. -/
def rp : Nat → Bs → Bs
  | 0, _ => []
  | _, [] => []
  | n + 1, c :: l => if c = 195 ∧ [159].isPrefixOf l = true then ss ++ rp n (l.drop 1) else if c = 225 ∧ [186, 158].isPrefixOf l = true then ss ++ rp n (l.drop 2) else c :: rp n l
theorem rp_nil (n : Nat) : rp n [] = [] := by cases n <;> rfl
theorem rp_fuel : ∀ (n m : Nat) (l : Bs), l.length ≤ n → l.length ≤ m → rp n l = rp m l := by
  intro n
  induction n with
  | zero => intro m l h _; have : l = [] := List.eq_nil_of_length_eq_zero (by omega); subst this; rw [rp_nil, rp_nil]
  | succ n ih =>
    intro m l h1 h2
    cases l with
    | nil => rw [rp_nil, rp_nil]
    | cons c l =>
      cases m with
      | zero => simp at h2
      | succ m =>
        simp at h1 h2
        unfold rp
        rw [ih m l h1 h2, ih m (l.drop 1) (by rw [List.length_drop]; omega) (by rw [List.length_drop]; omega), ih m (l.drop 2) (by rw [List.length_drop]; omega) (by rw [List.length_drop]; omega)]
def rpl (l : Bs) : Bs := rp l.length l
theorem rpl_nil : rpl [] = [] := rfl
theorem rpl_cons (c : UInt8) (l : Bs) : rpl (c :: l) = if c = 195 ∧ [159].isPrefixOf l = true then ss ++ rpl (l.drop 1) else if c = 225 ∧ [186, 158].isPrefixOf l = true then ss ++ rpl (l.drop 2) else c :: rpl l := by
  unfold rpl
  show rp (l.length + 1) (c :: l) = _
  rw [rp, rp_fuel l.length (l.drop 1).length (l.drop 1) (by rw [List.length_drop]; omega) (Nat.le_refl _), rp_fuel l.length (l.drop 2).length (l.drop 2) (by rw [List.length_drop]; omega) (Nat.le_refl _)]
def hit (c : UInt8) (l : Bs) : Bool := (c == 195 && [159].isPrefixOf l) || (c == 225 && [186, 158].isPrefixOf l)
theorem rpl_skip (c : UInt8) (l : Bs) (h : hit c l = false) : rpl (c :: l) = c :: rpl l := by
  simp only [hit, Bool.or_eq_false_iff] at h
  rw [rpl_cons, if_neg (fun e => by have := h.1; rw [e.1, e.2] at this; simp at this), if_neg (fun e => by have := h.2; rw [e.1, e.2] at this; simp at this)]
theorem skip_step (s : Bs) (i last : Nat) (hi : i < s.length) (hl : last ≤ i) (done X : Bs) (h : hit s[i] (s.drop (i + 1)) = false) (hE : done ++ (s.take i).drop last ++ rpl (s.drop i) = X) : done ++ (s.take (i + 1)).drop last ++ rpl (s.drop (i + 1)) = X := by
  rw [← hE, List.drop_eq_getElem_cons hi, rpl_skip _ _ h, List.take_succ_eq_append_getElem hi, List.drop_append_of_le_length (by rw [List.length_take]; omega)]
  simp
theorem hit_step (s : Bs) (i last k : Nat) (done X : Bs) (h : rpl (s.drop i) = ss ++ rpl (s.drop (i + k))) (hE : done ++ (s.take i).drop last ++ rpl (s.drop i) = X) : (done ++ (s.take i).drop last ++ ss) ++ (s.take (i + k)).drop (i + k) ++ rpl (s.drop (i + k)) = X := by
  rw [← hE, h, List.drop_eq_nil_of_le (show (s.take (i + k)).length ≤ i + k by rw [List.length_take]; omega)]
  simp
theorem hit_0 (s : Bs) (i : Nat) (hi : i < s.length) (hc : s[i] = 195) (h : [159].isPrefixOf (s.drop (i + 1)) = true) : rpl (s.drop i) = ss ++ rpl (s.drop (i + 2)) ∧ i + 2 ≤ s.length := by
  have hl := (List.isPrefixOf_iff_prefix.1 h).length_le
  rw [List.length_drop] at hl
  simp at hl
  rw [List.drop_eq_getElem_cons hi, rpl_cons, if_pos ⟨hc, h⟩, List.drop_drop]
  exact ⟨rfl, by omega⟩
theorem hit_2 (s : Bs) (i : Nat) (hi : i < s.length) (hc : s[i] = 225) (h : [186, 158].isPrefixOf (s.drop (i + 1)) = true) : rpl (s.drop i) = ss ++ rpl (s.drop (i + 3)) ∧ i + 3 ≤ s.length := by
  have hl := (List.isPrefixOf_iff_prefix.1 h).length_le
  rw [List.length_drop] at hl
  simp at hl
  rw [List.drop_eq_getElem_cons hi, rpl_cons, if_neg (fun e => by have := e.1; rw [hc] at this; exact absurd this (by decide)), if_pos ⟨hc, h⟩, List.drop_drop]
  exact ⟨rfl, by omega⟩
theorem gM_other : ∀ k, k < 256 → k ≠ 195 → k ≠ 225 → gM 256 k = 5 ∨ gM 256 k ≤ 2 := by decide +kernel
theorem gM_195 : gM 256 195 = 3 := by decide +kernel
theorem gM_225 : gM 256 225 = 4 := by decide +kernel
theorem ws_nil (v : Value) (w : World) : (nilAhead 270 156 v "WriteString").run Tryd.prog w = .ok (some false) w := by kernel_rfl
theorem ws_method (v : Value) (w : World) : (method 270 156 v "WriteString").run Tryd.prog w = .ok (119, v) w := by kernel_rfl
theorem Bf.drewN {w0 w : World} {bf : Nat} {l : Bs} (h : Bf w0 w bf l) (n : Nat) : Bf w0 (w.drewN n) bf l := ⟨h.1.drewN n, h.2⟩
set_option maxRecDepth 100000 in
set_option maxHeartbeats 1600000 in
theorem ws_any (w0 : World) (g tb bf : Nat) (s : Bs) (w : World) (hT : Tri w0 g tb) (hF : Bf w0 w bf []) (hs : s.length ≤ 1000000000000) :
    Calls Tryd.prog 103 #[.pointer (some ⟨g, 0, none⟩), .iface 156 (.pointer (some ⟨bf, 0, none⟩)), .string (sv s)] w fun e w' => ∃ n, e = .returned (.tuple #[.int .i64 n, .nilIface]) ∧ Bf w0 w' bf (rpl s) := by
  have hws1 := ws_nil (.pointer (some ⟨bf, 0, none⟩))
  have hws2 := ws_method (.pointer (some ⟨bf, 0, none⟩))
  have hsw := sw_any (.pointer (some ⟨bf, 0, none⟩)) w
  have HF := Lib.hid hF
  have hsz : ((sv s).size : Int) = (s.length : Int) := rfl
  clear hF
  go_enter Tryd.func103, Tryd.ntmps103
  go_wp2_with (fail)
  refine hsw.mono ?_
  rintro e w' ⟨rfl, rfl⟩
  go_wp2_with (fail)
  go_loopw [6, 7, 9, 10, 11, 12] (fun v6 v7 v9 v10 v11 v12 wr => ∃ (i last : Nat) (done : Bs), v7 = .nilIface ∧ v11 = .bool false ∧ v12 = .int .i64 i ∧ v9 = .int .i64 last ∧ v6 = .int .i64 (done.length : Int) ∧ last ≤ i ∧ i ≤ s.length + 1 ∧ last ≤ s.length ∧ done.length ≤ last ∧ Hid (Bf w0 wr bf done) ∧ Hid (done ++ (s.take i).drop last ++ rpl (s.drop i) = rpl s)) (fun _ _ _ _ _ v _ => s.length + 1 - (intOf v).toNat)
  case atStart => exact ⟨0, 0, [], rfl, rfl, rfl, rfl, rfl, by omega, by omega, by omega, by simp, HF, Lib.hid (by simp)⟩
  case round =>
    obtain ⟨i, last, done, rfl, rfl, rfl, rfl, rfl, hli, his, hls, hdl, hB, hE⟩ := hrel
    by_cases hend : i = s.length + 1
    · have hcmp : ¬ (i : Int) ≤ (s.length : Int) := by omega
      have hx : (sv s).extract last (sv s).size = sv (s.drop last) := by rw [sv_size, sv_ext]; simp
      have hb : done.length + (s.drop last).length ≤ 140737488355328 := by rw [List.length_drop]; omega
      have hc0 : (s.drop last).length = s.length - last := List.length_drop
      have hc1 : ((s.drop last).length : Int) = (s.length : Int) - (last : Int) := by omega
      have hls1 : (last : Int) ≤ (s.length : Int) := by omega
      have hE2 : Hid (done ++ s.drop last = rpl s) := by
        have := hE.out
        rw [hend, List.take_of_length_le (show s.length ≤ s.length + 1 by omega), List.drop_of_length_le (show s.length ≤ s.length + 1 by omega), rpl_nil, List.append_nil] at this
        exact Lib.hid this
      clear hE
      go_wp2_with (fail)
      · go_region_with ((go_at_call 119; refine (asw_any w0 bf _ done (s.drop last) (hB.out.drewN 1) hb).mono ?_; rintro e w6 ⟨rfl, b6⟩; have B6 := Lib.hid b6; clear b6))
        go_wp2
        go_ret2
        have hb6 : Bf w0 w6 bf (rpl s) := by rw [← hE2.out]; exact B6.out
        first | exact ⟨⟨_, rfl⟩, hb6⟩ | exact ⟨_, rfl, hb6⟩
      · have hll : last = s.length := by simp at *; omega
        go_ret2
        have hb6 : Bf w0 wr bf (rpl s) := by
          have := hE2.out
          rw [hll, List.drop_length, List.append_nil] at this
          rw [← this]
          exact hB.out
        first | exact ⟨⟨_, rfl⟩, hb6⟩ | exact ⟨_, rfl, hb6⟩
    · have hcmp : (i : Int) ≤ (s.length : Int) := by omega
      by_cases hE0 : i = s.length
      · have hlk := lookup_nil g tb false wr (hT.mod hB.out.1 (fun _ _ _ _ _ h => h))
        have hTr : Tri wr g tb := hT.mod hB.out.1 (fun _ _ _ _ _ h => h)
        have c1 : wr.cell? ⟨g, 1, none⟩ = some (.int .i64 0) := hTr.1.cell 1
        have hi0 : (i : Int) = (s.length : Int) := by omega
        have hx : (sv s).extract s.length (sv s).size = sv [] := by rw [sv_size, sv_ext]; simp
        have hx2 : (sv s).extract s.length s.length = sv [] := by rw [sv_ext]; simp
        clear hTr
        go_wp2_with (fail)
        refine hlk.mono ?_
        rintro e w' ⟨rfl, rfl⟩
        go_wp2_with (fail)
        refine ⟨⟨i + 1, last, done, rfl, rfl, by rw [hE0]; rfl, rfl, rfl, by omega, by omega, by omega, by omega, hB, Lib.hid ?_⟩, ?_⟩
        · have := hE.out
          rw [hE0] at this ⊢
          rw [List.take_of_length_le (show s.length ≤ s.length + 1 by omega), List.drop_of_length_le (show s.length ≤ s.length + 1 by omega)]
          rw [List.take_of_length_le (Nat.le_refl _), List.drop_of_length_le (Nat.le_refl _)] at this
          exact this
        · simp [intOf]; omega
      · have hi : i < s.length := by omega
        have hT2 : Tri wr g tb := hT.mod hB.out.1 (fun _ _ _ _ _ h => h)
        have c1 : wr.cell? ⟨g, 1, none⟩ = some (.int .i64 0) := hT2.1.cell 1
        have c4 : wr.cell? ⟨g, 4, none⟩ = some (.slice (some ⟨tb, 0, none⟩) 5 5) := hT2.1.cell 4
        have c5 : wr.cell? ⟨g, 5, none⟩ = some (.int .i64 5) := hT2.1.cell 5
        obtain ⟨c, hc⟩ : ∃ c, s[i] = c := ⟨_, rfl⟩
        have hc256 : c.toNat < 256 := c.toNat_lt
        obtain ⟨mm, hmm⟩ : ∃ mm, gM 256 c.toNat = mm := ⟨_, rfl⟩
        have cm : wr.cell? ⟨g, 6 + c.toNat, none⟩ = some (.int .u8 (mm : Int)) := by rw [hT2.1.cell, gC_map _ _ _ _ hc256, hmm]
        have hci : (c.toNat : Int) < 256 := by omega
        have hi1 : (i : Int) < (s.length : Int) := by omega
        have hi2 : ¬ (i : Int) = (s.length : Int) := by omega
        have hi3 : ((i : Int) != (s.length : Int)) = true := by simp; omega
        have hg0 : ∀ h : i < (sv s).size, (sv s)[i]'h = c := fun _ => hc
        have hw : mm < 256 → wrap64 (mm : Int) = (mm : Int) := fun h => by unfold wrap64; omega
        have hX := hT2
        obtain ⟨hTg, n, m, n', m', hb, hn, hm, hn', hm'⟩ := hX
        by_cases hit0 : c = 195 ∨ c = 225
        · have hpk : ∃ (B : Bool) (N x : Nat), N ≤ 2 ∧ 1 ≤ N ∧ (∀ q, Calls Tryd.prog 105 #[.pointer (some ⟨g, 0, none⟩), .string (sv (c :: s.drop (i + 1))), .bool false] (wr.drewN q) fun e w' => e = .returned (.tuple #[.string (sv (lkV B)), .int .i64 (lkN B N : Nat), .bool B]) ∧ Dr (wr.drewN q) w') ∧
              mm < 5 ∧ wr.cell? ⟨tb, mm, none⟩ = some (.pointer (some ⟨x, 0, none⟩)) ∧ (B = true → rpl (s.drop i) = ss ++ rpl (s.drop (i + (1 + N))) ∧ i + (1 + N) ≤ s.length) ∧ (B = false → hit c (s.drop (i + 1)) = false) := by
            rcases hit0 with h | h
            · have hm3 : mm = 3 := by rw [← hmm, h]; exact gM_195
              refine ⟨[159].isPrefixOf (s.drop (i + 1)), 1, n, by omega, by omega, fun q => lookup_row g tb c (s.drop (i + 1)) [159] 159 [] rfl 4 (by omega) n m 3 (t2 n n') false (wr.drewN q) hTg hb (by omega) (by rw [hmm, hm3]) rfl rfl hn hm (by decide) _ rfl, by omega, by rw [hb.cell, hm3]; rfl, fun e => hit_0 s i hi (by rw [hc, h]) e, fun e => ?_⟩
              rw [h]; simp [hit]; simpa using e
            · have hm3 : mm = 4 := by rw [← hmm, h]; exact gM_225
              refine ⟨[186, 158].isPrefixOf (s.drop (i + 1)), 2, n', by omega, by omega, fun q => lookup_row g tb c (s.drop (i + 1)) [186, 158] 186 [158] rfl 2 (by omega) n' m' 4 (t2 n n') false (wr.drewN q) hTg hb (by omega) (by rw [hmm, hm3]) rfl rfl hn' hm' (by decide) _ rfl, by omega, by rw [hb.cell, hm3]; rfl, fun e => hit_2 s i hi (by rw [hc, h]) e, fun e => ?_⟩
              rw [h]; simp [hit]; simpa using e
          obtain ⟨B, N, x, hN2, hN1, hlk, hm5, t0, hBt, hBf⟩ := hpk
          have hw5 := hw (by omega)
          have hmi5 : (mm : Int) < 5 := by omega
          have hmi6 : ¬ (mm : Int) = 5 := by omega
          have hx : (sv s).extract i (sv s).size = sv (c :: s.drop (i + 1)) := by rw [sv_size, sv_ext, List.take_length, List.drop_eq_getElem_cons hi, hc]
          clear hTg hb hn hm hn' hm' hT2
          go_wp2_with (fail)
          go_quiet (fail)
          go_wp2_with (fail)
          refine (hlk _).mono ?_
          rintro e w6 ⟨rfl, q6, rfl⟩
          cases B with
          | false =>
            have hst := skip_step s i last hi hli done (rpl s) (by rw [hc]; exact hBf rfl) hE.out
            clear hE
            go_wp2_with (fail)
            refine ⟨⟨i + 1, last, done, rfl, rfl, rfl, rfl, rfl, by omega, by omega, by omega, by omega, Lib.hid (by simpa using hB.out.drewN _), Lib.hid hst⟩, ?_⟩
            simp [intOf]; omega
          | true =>
            obtain ⟨hr1, hr2⟩ := hBt rfl
            have hst := hit_step s i last (1 + N) done (rpl s) hr1 hE.out
            have hx2 : (sv s).extract last i = sv ((s.take i).drop last) := sv_ext ..
            have hml : ((s.take i).drop last).length = i - last := by rw [List.length_drop, List.length_take]; omega
            have hb2 : done.length + ((s.take i).drop last).length ≤ 140737488355328 := by omega
            have hlkv : lkV true = ss := rfl
            have hlkn : lkN true N = 1 + N := rfl
            have hli1 : (last : Int) ≤ (i : Int) := by omega
            have hN0 : ((1 + N : Nat) : Int) ≠ 0 := by omega
            have hMD : Hid (((s.take i).drop last).length = i - last) := Lib.hid hml
            have HB2 := Lib.hid hb2
            have HST := Lib.hid hst
            clear hE hBt hBf hr1 hst hml hb2
            go_wp2_with (fail)
            go_region_with ((go_at_call 119; refine (asw_any w0 bf _ done ((s.take i).drop last) (hB.out.drewN _) HB2.out).mono ?_; rintro e w7 ⟨rfl, b7⟩; have B7 := Lib.hid b7; clear b7))
            go_wp2_with (fail)
            have hb3 : (done ++ (s.take i).drop last).length + ss.length ≤ 140737488355328 := by
              have h1 := hMD.out
              have h2 : ss.length = 2 := rfl
              rw [List.length_append, h1, h2]; omega
            refine (asw_any w0 bf w7 (done ++ (s.take i).drop last) ss B7.out hb3).mono ?_
            rintro e w8 ⟨rfl, b8⟩
            have B8 := Lib.hid b8
            clear b8
            go_wp2_with (fail)
            have hlen : (done ++ (s.take i).drop last ++ ss).length = done.length + (i - last) + 2 := by
              have h1 := hMD.out
              have h2 : ss.length = 2 := rfl
              rw [List.length_append, List.length_append, h1, h2]
            refine ⟨⟨i + (1 + N), i + (1 + N), done ++ (s.take i).drop last ++ ss, rfl, by congr 1; simp; omega, by congr 1; all_goals omega, by congr 1; all_goals omega, ?_, by omega, by omega, by omega, by rw [hlen]; omega, B8, HST⟩, ?_⟩
            · rw [hlen]
              have h2 : ss.length = 2 := rfl
              congr 1
              have hmin : min i s.length = i := Nat.min_eq_left (by omega)
              rw [hmin]
              omega
            · simp [intOf]; omega
        · have hit1 : ¬ c = 195 := fun e => hit0 (.inl e)
          have hit2 : ¬ c = 225 := fun e => hit0 (.inr e)
          · have hno : hit c (s.drop (i + 1)) = false := by simp [hit, hit1, hit2]
            have hst := skip_step s i last hi hli done (rpl s) (by rw [hc]; exact hno) hE.out
            rcases gM_other c.toNat hc256 (fun e => hit1 (UInt8.toNat_inj.1 e)) (fun e => hit2 (UInt8.toNat_inj.1 e)) with e | e
            · rw [hmm] at e
              subst e
              have hw5 := hw (by omega)
              clear hTg hb hn hm hn' hm' hT2 hE
              go_wp2_with (fail)
              go_quiet (fail)
              go_wp2_with (fail)
              refine ⟨⟨i + 1, last, done, rfl, rfl, rfl, rfl, rfl, by omega, by omega, by omega, by omega, Lib.hid (hB.out.drewN _), Lib.hid hst⟩, ?_⟩
              simp [intOf]; omega
            · rw [hmm] at e
              have hw5 := hw (by omega)
              have t0 : wr.cell? ⟨tb, mm, none⟩ = some (.pointer none) := by
                rw [hb.cell]
                match mm, e with
                | 0, _ => rfl
                | 1, _ => rfl
                | 2, _ => rfl
              have hm5 : (mm : Int) < 5 := by omega
              have hm6 : ¬ (mm : Int) = 5 := by omega
              clear hTg hb hn hm hn' hm' hT2 hE
              go_wp2_with (fail)
              go_quiet (fail)
              go_wp2_with (fail)
              refine ⟨⟨i + 1, last, done, rfl, rfl, rfl, rfl, rfl, by omega, by omega, by omega, by omega, Lib.hid (hB.out.drewN _), Lib.hid hst⟩, ?_⟩
              simp [intOf]; omega
end Go.Proofs.YtokojeiiobhciaaDoor
