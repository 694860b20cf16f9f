/-
  Encode, of nothing.
-/
import Derived.Test.YtealopafgipimaaDoorPr
namespace Go.Proofs.YtealopafgipimaaDoor
open Go.RowKit Mem
set_option linter.unusedVariables false
set_option linter.unusedSimpArgs false

set_option maxRecDepth 100000 in
set_option maxHeartbeats 1600000 in
theorem acl_nil (w : World) : Calls Tryd.prog 32 #[.slice none 0 0] w fun e w' => e = .returned (.bool true) ∧ Mod (fun _ => False) w w' := by
  go_enter Tryd.func32, Tryd.ntmps32
  go_wp2_with (fail)
  go_loopw [7] (fun v wr => v = .int .i64 0 ∧ wr = w) (fun _ _ => 0)
  case atStart => exact ⟨rfl, rfl⟩
  case round =>
    obtain ⟨rfl, rfl⟩ := hrel
    go_wp2_with (fail)
    go_ret
    exact ⟨rfl, Mod.refl _ _⟩
set_option maxRecDepth 100000 in
set_option maxHeartbeats 1600000 in
theorem idx_nil (v : Value) (w : World) : Calls Tryd.prog 47 #[.slice none 0 0, v] w fun e w' => e = .returned (.int .i64 (-1)) ∧ Mod (fun _ => False) w w' := by
  go_enter Tryd.func47, Tryd.ntmps47
  go_wp2_with (fail)
  go_loopw [8] (fun v wr => v = .int .i64 0 ∧ wr = w) (fun _ _ => 0)
  case atStart => exact ⟨rfl, rfl⟩
  case round =>
    obtain ⟨rfl, rfl⟩ := hrel
    go_wp2_with (fail)
    go_ret
    exact ⟨rfl, Mod.refl _ _⟩
set_option maxRecDepth 100000 in
set_option maxHeartbeats 1600000 in
theorem cont_nil (v : Value) (w : World) : Calls Tryd.prog 33 #[.slice none 0 0, v] w fun e w' => e = .returned (.bool false) ∧ Mod (fun _ => False) w w' := by
  go_enter Tryd.func33, Tryd.ntmps33
  go_wp2_with (fail)
  refine (idx_nil v w).mono ?_
  rintro e w2 ⟨rfl, hm⟩
  go_wp2_with (fail)
  go_ret
  exact ⟨rfl, hm⟩
set_option maxRecDepth 100000 in
set_option maxHeartbeats 1600000 in
theorem right_nil (w : World) : Calls Tryd.prog 21 #[.agg #[.slice none 0 0, .slice none 0 0]] w fun e w' => e = .returned (.bool true) ∧ Mod (fun _ => False) w w' := by
  go_enter Tryd.func21, Tryd.ntmps21
  go_wp2_with (fail)
  go_loopw [9] (fun v wr => v = .int .i64 0 ∧ wr = w.alloc (Obj.cells #[Value.slice none 0 0, Value.slice none 0 0] 36)) (fun _ _ => 0)
  case atStart => exact ⟨rfl, rfl⟩
  case round =>
    obtain ⟨rfl, rfl⟩ := hrel
    go_wp2_with (fail)
    refine (acl_nil _).mono ?_
    rintro e w2 ⟨rfl, hm2⟩
    have c1 : w2.cell? ⟨w.heap.size, 1, none⟩ = some (.slice none 0 0) := cell_keep hm2 (by rw [alloc_cell]; rfl) (fun h => h)
    have HM2 : Hid (Mod (fun _ => False) w w2) := Lib.hid (((Mod.refl _ w).alloc _).trans hm2 (fun _ h => h.elim))
    clear hm2
    go_wp2_with (fail)
    refine (cont_nil _ _).mono ?_
    rintro e w3 ⟨rfl, hm3⟩
    go_wp2_with (fail)
    go_ret
    exact ⟨rfl, HM2.out.trans hm3 (fun _ h => h.elim)⟩
theorem store_fn (a : Addr) (fn : Fn) (x y : Array Value) (old : Value) (w : World) (hc : w.cell? a = some old) (hz : w.frozen? a = false) : (store a (.func fn x y)).run Tryd.prog w = .ok () (w.setCell a (.func fn x y)) := by
  rw [run_store _ _ _ _ _ rfl, hc]
  simp [hz]
theorem blk_two (w : World) (a b : Array Value) (t u : TypeId) : Blk ((w.alloc (Obj.cells a t)).alloc (Obj.cells b u)) (w.heap.size + 1) b u := by
  have := Blk.new (w.alloc (Obj.cells a t)) b u
  have e : (w.alloc (Obj.cells a t)).heap.size = w.heap.size + 1 := by simp
  rwa [e] at this
set_option maxRecDepth 100000 in
set_option maxHeartbeats 1600000 in
/-- low.Var of a small number. -/
theorem var_small (w0 : World) (v : Value) (l : Bs) (k : Nat) (hk : k < 128) (hl : l.length ≤ 1000000) (w : World) (hO : Ob w0 w v l) (hm : Mod (fun _ => False) w0 w) :
    Calls Tryd.prog 23 #[v, .int .i64 (k : Int)] w fun e w' => ∃ v', e = .returned v' ∧ Ob w0 w' v' (l ++ [k.toUInt8]) ∧ Mod (fun _ => False) w0 w' ∧ Mod (fun b => v.ownBlock = some b) w w' := by
  obtain ⟨B2, c2, w2, hr, hO2, hm2, hf2⟩ := hO.app1T k.toUInt8 hm (by omega)
  have hku : (k.toUInt8.toNat : Int) = (k : Int) := by simp; omega
  rw [hku] at hr
  obtain ⟨B, cb, rfl⟩ := hO.val
  have q1 : ¬ (128 : Int) ≤ (k : Int) := by omega
  have hw8 : IntKind.u8.wrap (k : Int) = (k : Int) := by rw [IntKind.wrap_u8]; omega
  have HH := Lib.hid (And.intro hO2 (And.intro hm2 hf2))
  clear hO2 hm2 hO hm hku hf2
  go_enter Tryd.func23, Tryd.ntmps23
  go_wp2_with (fail)
  go_loopw [0, 1] (fun v0 v1 wr => v0 = .slice B l.length cb ∧ v1 = .int .i64 (k : Int) ∧ wr = w) (fun _ _ _ => 0)
  case atStart => exact ⟨rfl, rfl, rfl⟩
  case round =>
    obtain ⟨rfl, rfl, rfl⟩ := hrel
    go_wp2_with (at_builtin; refine wpList_append_run rfl _ _ 22 22 rfl _ _ rfl rfl hr ?_)
    go_ret
    exact ⟨_, rfl, HH.out.1, HH.out.2.1, HH.out.2.2⟩
/-- Bytes in a box. -/
def Bx (w0 w : World) (g : Nat) (l : Bs) : Prop := ∃ v, Blk w g #[v] 22 ∧ Ob w0 w v l
theorem ob_ne {w0 w : World} {v : Value} {l : Bs} {g : Nat} {cs : Array Value} (h : Ob w0 w v l) (hB : Blk w g cs 22) : ¬ v.ownBlock = some g := by
  rcases h with ⟨rfl, _⟩ | ⟨g', hg, cap, cur, rfl, hB', _⟩
  · simp [Value.ownBlock]
  · intro e
    have e2 : g' = g := by simpa [Value.ownBlock] using e
    subst e2
    exact Blk.ne hB' hB (by decide) rfl
theorem ob_base {w0 w : World} {v : Value} {l : Bs} {g : Nat} (h : Ob w0 w v l) (e : v.ownBlock = some g) : w0.heap.size ≤ g := by
  rcases h with ⟨rfl, _⟩ | ⟨g', hg, cap, cur, rfl, hB', _⟩
  · simp [Value.ownBlock] at e
  · have e2 : g' = g := by simpa [Value.ownBlock] using e
    omega
/-- A row stays, whatever is laid into a box. -/
theorem Ob.box {w0 w : World} {v u : Value} {l : Bs} {g : Nat} {cs : Array Value} (h : Ob w0 w v l) (hB : Blk w g cs 22) : Ob w0 (w.setCell ⟨g, 0, none⟩ u) v l := by
  rcases h with h | ⟨g', hg, cap, cur, rfl, hB', r⟩
  · exact .inl h
  · exact .inr ⟨g', hg, cap, cur, rfl, hB'.far (p := ⟨g, 0, none⟩) (Blk.ne hB' hB (by decide)) u, r⟩
set_option maxRecDepth 100000 in
set_option maxHeartbeats 1600000 in
theorem number_any (w0 : World) (g : Nat) (l : Bs) (k : Nat) (hk : k < 128) (hl : l.length ≤ 1000000) (w : World) (hB : Bx w0 w g l) (hm : Mod (fun _ => False) w0 w) (hg : w0.heap.size ≤ g) (fr : Nat → Prop) (hfr : ∀ b, ¬ fr b → b < w.heap.size → b ≠ g ∧ ∀ cs fz, w.heap[b]? ≠ some (.cells cs 5 fz)) :
    Calls Tryd.prog 22 #[.int .i64 (k : Int), .pointer (some ⟨g, 0, none⟩)] w fun e w' => e = .returned (.tuple #[]) ∧ Bx w0 w' g (l ++ [k.toUInt8]) ∧ Mod (fun _ => False) w0 w' ∧ Mod fr w w' := by
  obtain ⟨v, hb, hO⟩ := hB
  have c0 : w.cell? ⟨g, 0, none⟩ = some v := hb.cell 0
  have hv := var_small w0 v l k hk hl w hO hm
  have hne := ob_ne hO hb
  have hown : ∀ b, v.ownBlock = some b → fr b := by
    intro b e
    rcases Classical.em (fr b) with h | h
    · exact h
    · exfalso
      rcases hO with ⟨rfl, _⟩ | ⟨g', hg', cap, cur, rfl, hB', _⟩
      · simp [Value.ownBlock] at e
      · have e2 : g' = b := by simpa [Value.ownBlock] using e
        subst e2
        exact (hfr g' h hB'.lt).2 _ _ hB'
  have hgfr : fr g := by
    rcases Classical.em (fr g) with h | h
    · exact h
    · exact absurd rfl (hfr g h hb.lt).1
  obtain ⟨B, cb, rfl⟩ := hO.val
  have HX := Lib.hid (And.intro hb (And.intro hne (And.intro hown hgfr)))
  clear hb hO hne hown hfr hgfr
  go_enter Tryd.func22, Tryd.ntmps22
  go_wp2_with (fail)
  refine hv.mono ?_
  rintro e w2 ⟨v2, rfl, hO2, hm2, hf2⟩
  obtain ⟨hb, hne, hown, hgfr⟩ := HX.out
  have hb2 : Blk w2 g #[.slice B l.length cb] 22 := hb.mod hf2 hne
  have c2 : w2.cell? ⟨g, 0, none⟩ = some (.slice B l.length cb) := hb2.cell 0
  have z2 := hb2.frozen 0
  have HB : Hid (Bx w0 (w2.setCell ⟨g, 0, none⟩ v2) g (l ++ [k.toUInt8])) := Lib.hid ⟨v2, hb2.set 0 v2, hO2.box hb2⟩
  have HM : Hid (Mod (fun _ => False) w0 (w2.setCell ⟨g, 0, none⟩ v2)) := Lib.hid (hm2.setCell (p := ⟨g, 0, none⟩) (.inr hg) v2)
  have HF : Hid (Mod fr w (w2.setCell ⟨g, 0, none⟩ v2)) := Lib.hid ((hf2.mono hown).setCell (p := ⟨g, 0, none⟩) (.inl hgfr) v2)
  obtain ⟨B2, cb2, rfl⟩ := hO2.val
  have hlen : (l ++ [k.toUInt8]).length = l.length + 1 := List.length_append ..
  rw [hlen] at HB HM HF ⊢
  clear hb hne hown hgfr hb2 hO2 hm2 hf2 hv hlen
  go_wp2_with (fail)
  refine bodyPost_end (results_none rfl _ _ _) rfl ?_
  exact ⟨rfl, HB.out, HM.out, HF.out⟩
/-- The store's box, the writer's, and the bytes' box. -/
def Es (w W : World) (gs gb gn : Nat) (f : Value) (acc : Bs) : Prop :=
  Blk W gs #[.slice none 0 0, .slice none 0 0] 36 ∧ Blk W gn #[f] 60 ∧ Bx w W gb acc ∧ Mod (fun _ => False) w W ∧ w.heap.size ≤ gb ∧ ¬ gs = gb ∧ ¬ gn = gb
theorem Es.num {w W : World} {gs gb gn : Nat} {f : Value} {acc : Bs} (h : Es w W gs gb gn f acc) (ha : acc.length ≤ 1000000) :
    Calls Tryd.prog 22 #[.int .i64 0, .pointer (some ⟨gb, 0, none⟩)] W fun e w' => e = .returned (.tuple #[]) ∧ Es w w' gs gb gn f (acc ++ [0]) := by
  obtain ⟨hS, hN, hB, hm, hg, hn1, hn2⟩ := h
  have hnum := number_any w gb acc 0 (by omega) ha W hB hm hg (fun b => b ≠ gs ∧ b ≠ gn) (fun b h hb => by
    have hb2 : b = gs ∨ b = gn := by
      rcases Nat.decEq b gs with h1 | h1
      · rcases Nat.decEq b gn with h2 | h2
        · exact absurd ⟨h1, h2⟩ h
        · exact .inr h2
      · exact .inl h1
    rcases hb2 with rfl | rfl
    · refine ⟨hn1, fun cs fz hc => ?_⟩
      have := hS
      unfold Blk at this
      rw [this] at hc
      injection hc with hc
      injection hc with _ ht _
      exact absurd ht (by decide)
    · refine ⟨hn2, fun cs fz hc => ?_⟩
      have := hN
      unfold Blk at this
      rw [this] at hc
      injection hc with hc
      injection hc with _ ht _
      exact absurd ht (by decide))
  refine hnum.mono fun e w' ⟨he, hB2, hm2, hf⟩ => ⟨he, hS.mod hf (fun h => h.1 rfl), hN.mod hf (fun h => h.2 rfl), hB2, hm2, hg, hn1, hn2⟩
theorem blk_set1 {w : World} {g : Nat} {a u : Value} {t : TypeId} (h : Blk w g #[a] t) : Blk (w.setCell ⟨g, 0, none⟩ u) g #[u] t := h.set 0 u
set_option maxRecDepth 100000 in
set_option maxHeartbeats 3200000 in
theorem enc_nil (w : World) : Calls Tryd.prog 17 #[.agg #[.slice none 0 0, .slice none 0 0]] w fun e w' => ∃ v, e = .returned (.tuple #[v, .int .i64 0]) ∧ Ob w w' v [83, 0, 0] ∧ Mod (fun _ => False) w w' := by
  go_enter Tryd.func17, Tryd.ntmps17
  go_wp2_with (fail)
  refine (right_nil _).mono ?_
  rintro e w2 ⟨rfl, hm⟩
  have hb1 := blk_two w2 #[Value.slice none 0 0] #[Value.nilFunc] 22 60
  have hst := fun fn x y => store_fn _ fn x y _ _ (hb1.cell 0) (hb1.frozen 0)
  -- the world at the first append
  have hS2 : Blk w2 w.heap.size #[.slice none 0 0, .slice none 0 0] 36 := (Blk.new w _ _).mod hm (fun h => h)
  obtain ⟨fnv, hfn⟩ : ∃ f : Value, f = Value.func (.func 22) #[] #[.pointer (some ⟨w2.heap.size, 0, none⟩)] := ⟨_, rfl⟩
  obtain ⟨W, hW⟩ : ∃ W, W = (w2.alloc (Obj.cells #[Value.slice none 0 0] 22)).alloc (Obj.cells #[fnv] 60) := ⟨_, rfl⟩
  have hWs : W.heap.size = w2.heap.size + 1 + 1 := by rw [hW]; simp
  have hwW : Mod (fun _ => False) w W := by rw [hW]; exact ((((Mod.refl _ w).alloc _).trans hm (fun _ h => h.elim)).alloc _).alloc _
  have hSW : Blk W w.heap.size #[.slice none 0 0, .slice none 0 0] 36 := by rw [hW]; exact (hS2.alloc _).alloc _
  have hBW : Blk W w2.heap.size #[.slice none 0 0] 22 := by rw [hW]; exact (Blk.new w2 _ _).alloc _
  have hNW : Blk W (w2.heap.size + 1) #[fnv] 60 := by rw [hW]; exact blk_two w2 _ _ _ _
  have hO0 : Ob w W (.slice none 0 0) [] := .inl ⟨rfl, rfl⟩
  obtain ⟨A5, c5, w5, hr, hO5, hm5, hf5⟩ := hO0.app1T 83 hwW (by simp)
  have hf5' : Mod (fun _ => False) W w5 := hf5.mono (fun k h => by simp [Value.ownBlock] at h)
  rw [hWs, show ((83 : UInt8).toNat : Int) = 83 from rfl] at hr
  have hS5 := hSW.mod hf5' (fun h => h)
  have hB5 := hBW.mod hf5' (fun h => h)
  have hN5 := hNW.mod hf5' (fun h => h)
  have c1 : w5.cell? ⟨w2.heap.size, 0, none⟩ = some (.slice none 0 0) := hB5.cell 0
  have z1 := hB5.frozen 0
  have d1 : w5.cell? ⟨w2.heap.size + 1, 0, none⟩ = some (Value.func (.func 22) #[] #[.pointer (some ⟨w2.heap.size, 0, none⟩)]) := by rw [hN5.cell, hfn]; rfl
  have d2 : w5.cell? ⟨w.heap.size, 0, none⟩ = some (.slice none 0 0) := hS5.cell 0
  have hne1 : ¬ w.heap.size = w2.heap.size := by have := hm.size; simp at this; omega
  have hne2 : ¬ w2.heap.size = w.heap.size := fun e => hne1 e.symm
  -- behind the first byte
  have hB6 := blk_set1 (u := .slice A5 1 c5) hB5
  have hO6 := hO5.box (u := .slice A5 1 c5) hB5
  have hm6 : Mod (fun _ => False) w (w5.setCell ⟨w2.heap.size, 0, none⟩ (.slice A5 1 c5)) := hm5.setCell (p := ⟨w2.heap.size, 0, none⟩) (.inr (by have := hm.size; simp at this; show w.heap.size ≤ w2.heap.size; omega)) _
  have hS6 := hS5.far (p := ⟨w2.heap.size, 0, none⟩) hne1 (.slice A5 1 c5)
  have hN6 := hN5.far (p := ⟨w2.heap.size, 0, none⟩) (by show w2.heap.size + 1 ≠ w2.heap.size; omega) (.slice A5 1 c5)
  have hEs : Hid (Es w (w5.setCell ⟨w2.heap.size, 0, none⟩ (.slice A5 1 c5)) w.heap.size w2.heap.size (w2.heap.size + 1) fnv [83]) := Lib.hid ⟨hS6, hN6, ⟨_, hB6, hO6⟩, hm6, by have := hm.size; simp at this; omega, hne1, by omega⟩
  clear hB6 hO6 hm6 hS6 hN6
  rw [hW, hfn] at hr
  have HH := Lib.hid (And.intro hO5 (And.intro hm5 (And.intro hS5 (And.intro hB5 hN5))))
  have hsz2 : w.heap.size + 1 ≤ w2.heap.size := by have := hm.size; simpa using this
  clear hO5 hm5 hf5 hf5' hS5 hB5 hN5 hBW hNW hSW hwW hWs hO0 hS2 hb1 hW
  go_wp2_with (at_builtin; refine wpList_append_run rfl _ _ 22 22 rfl _ _ rfl rfl hr ?_)
  refine (hEs.out.num (by simp)).mono ?_
  rintro e w7 ⟨rfl, hE7⟩
  have d7 : w7.cell? ⟨w.heap.size, 0, none⟩ = some (.slice none 0 0) := hE7.1.cell 0
  have d8 : w7.cell? ⟨w2.heap.size + 1, 0, none⟩ = some (Value.func (.func 22) #[] #[.pointer (some ⟨w2.heap.size, 0, none⟩)]) := by rw [hE7.2.1.cell, hfn]; rfl
  have d9 : w7.cell? ⟨w.heap.size, 1, none⟩ = some (.slice none 0 0) := hE7.1.cell 1
  have HE7 := Lib.hid hE7
  clear hE7 hEs d1 d2 c1 z1 hst hr
  go_wp2_with (fail)
  go_loopw [31] (fun v wr => v = .int .i64 0 ∧ wr = w7) (fun _ _ => 0)
  case atStart => exact ⟨rfl, rfl⟩
  case round =>
    obtain ⟨rfl, rfl⟩ := hrel
    go_wp2_with (fail)
    refine (HE7.out.num (by simp)).mono ?_
    rintro e w8 ⟨rfl, hE8⟩
    have d7 : w8.cell? ⟨w.heap.size, 1, none⟩ = some (.slice none 0 0) := hE8.1.cell 1
    obtain ⟨v8, hb8, hO8⟩ := hE8.2.2.1
    have d8 : w8.cell? ⟨w2.heap.size, 0, none⟩ = some v8 := hb8.cell 0
    have HE8 := Lib.hid (And.intro hO8 hE8.2.2.2.1)
    obtain ⟨B8, cb8, rfl⟩ := hO8.val
    clear hE8 hb8 hO8 HE7
    go_wp2_with (fail)
    go_loopw [86] (fun v wx => v = .int .i64 0 ∧ wx = w8) (fun _ _ => 0)
    case atStart => exact ⟨rfl, rfl⟩
    case round =>
      obtain ⟨rfl, rfl⟩ := hrel
      go_wp2_with (fail)
      go_ret2
      exact ⟨_, rfl, HE8.out.1, HE8.out.2⟩
end Go.Proofs.YtealopafgipimaaDoor
