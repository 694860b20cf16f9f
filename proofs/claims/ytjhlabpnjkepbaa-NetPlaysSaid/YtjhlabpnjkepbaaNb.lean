/-
  A net in memory: its block, the row of its letters, the letters' bytes. New, Len, Split, Look.
-/
import Derived.Test.YtjhlabpnjkepbaaNa
namespace Go.Proofs.Ytjhlabpnjkepbaa
open Go.RowKit Mem
set_option linter.unusedVariables false

/-- A letter. -/
structure Let where
  f : Int
  t : Int
  b : List UInt8

/-- Letters in a row's cells. -/
def Lets (w : World) : List Let → List Value → Prop
  | [], xs => xs = []
  | l :: L, xs => ∃ v r, xs = .int .i64 l.f :: .int .i64 l.t :: v :: r ∧ By w 0 v l.b ∧ Lets w L r
theorem Lets.len {w : World} : ∀ {L : List Let} {xs : List Value}, Lets w L xs → xs.length = L.length * 3
  | [], xs, h => by rw [show xs = [] from h]; rfl
  | l :: L, xs, h => by
    obtain ⟨v, r, rfl, _, hr⟩ := h
    have := hr.len
    simp only [List.length_cons]
    omega
theorem Lets.append {w : World} : ∀ {L M : List Let} {xs ys : List Value}, Lets w L xs → Lets w M ys → Lets w (L ++ M) (xs ++ ys)
  | [], M, xs, ys, h, k => by rw [show xs = [] from h]; exact k
  | l :: L, M, xs, ys, h, k => by
    obtain ⟨v, r, rfl, hv, hr⟩ := h
    exact ⟨v, r ++ ys, rfl, hv, hr.append k⟩
theorem Lets.take {w : World} : ∀ {L : List Let} {xs : List Value} (i : Nat), Lets w L xs → Lets w (L.take i) (xs.take (i * 3))
  | _, xs, 0, _ => by simp [Lets]
  | [], xs, i + 1, h => by rw [show xs = [] from h]; simp [Lets]
  | l :: L, xs, i + 1, h => by
    obtain ⟨v, r, rfl, hv, hr⟩ := h
    refine ⟨v, r.take (i * 3), ?_, hv, hr.take i⟩
    rw [show (i + 1) * 3 = i * 3 + 1 + 1 + 1 from by omega]
    rfl
theorem Lets.drop {w : World} : ∀ {L : List Let} {xs : List Value} (i : Nat), Lets w L xs → Lets w (L.drop i) (xs.drop (i * 3))
  | _, xs, 0, h => by simpa using h
  | [], xs, i + 1, h => by rw [show xs = [] from h]; simp [Lets]
  | l :: L, xs, i + 1, h => by
    obtain ⟨v, r, rfl, hv, hr⟩ := h
    rw [show (i + 1) * 3 = i * 3 + 1 + 1 + 1 from by omega]
    exact hr.drop i
theorem Lets.get {w : World} {L : List Let} {xs : List Value} (h : Lets w L xs) (i : Nat) (hi : i < L.length) :
    ∃ v, xs[i * 3]? = some (.int .i64 L[i].f) ∧ xs[i * 3 + 1]? = some (.int .i64 L[i].t) ∧ xs[i * 3 + 2]? = some v ∧ By w 0 v L[i].b := by
  have hd := h.drop i
  rw [List.drop_eq_getElem_cons hi] at hd
  obtain ⟨v, r, hx, hv, _⟩ := hd
  refine ⟨v, ?_, ?_, ?_, hv⟩
  · have := congrArg (·[0]?) hx; simpa [List.getElem?_drop] using this
  · have := congrArg (·[1]?) hx; simpa [List.getElem?_drop] using this
  · have := congrArg (·[2]?) hx; simpa [List.getElem?_drop] using this
theorem Lets.mod {S : Nat → Prop} {w w' : World} (hm : Mod S w w') (hd : ∀ d cs, Blk w d cs 5 → ¬ S d) : ∀ {L : List Let} {xs : List Value}, Lets w L xs → Lets w' L xs
  | [], xs, h => h
  | l :: L, xs, h => by
    obtain ⟨v, r, rfl, hv, hr⟩ := h
    refine ⟨v, r, rfl, own_mod hv hm (fun g hg => ?_), hr.mod hm hd⟩
    obtain ⟨cur, hc⟩ := own_type hv hg
    exact hd g cur hc

theorem By.form {w : World} {base : Nat} {v : Value} {b : List UInt8} (h : By w base v b) : ∃ A c, v = .slice A b.length c := by
  rcases own_cases h with ⟨rfl, hn, _⟩ | ⟨g, cap, cur, rfl, _⟩
  · exact ⟨none, 0, by rw [hn]⟩
  · exact ⟨_, cap, rfl⟩

/-- A net at block g: v its letters' slice, s its sides; all of it from block B on. -/
structure NetAt (B : Nat) (w : World) (g : Nat) (v : Value) (L : List Let) (s : Nat) : Prop where
  blk : Blk w g #[v, .int .u64 s] 52
  own : ∃ xs, w.ownsRow B 57 3 v L.length xs ∧ Lets w L xs
  base : B ≤ g
  sides : s < 18446744073709551616
  few : L.length ≤ 200

theorem NetAt.mod {S : Nat → Prop} {B g s : Nat} {w w' : World} {v : Value} {L : List Let} (h : NetAt B w g v L s) (hm : Mod S w w') (hg : ¬ S g) (hv : ∀ a, v.ownBlock = some a → ¬ S a) (hd : ∀ d cs, Blk w d cs 5 → ¬ S d) : NetAt B w' g v L s := by
  obtain ⟨xs, ho, hl⟩ := h.own
  exact ⟨h.blk.mod hm hg, ⟨xs, own_mod ho hm hv, hl.mod hm hd⟩, h.base, h.sides, h.few⟩
/-- Only new blocks turned. -/
theorem NetAt.new {S : Nat → Prop} {B g s : Nat} {w w' : World} {v : Value} {L : List Let} (h : NetAt B w g v L s) (hm : Mod S w w') (hS : ∀ i, S i → w.heap.size ≤ i) : NetAt B w' g v L s := by
  have hlt : ∀ d cs t, Blk w d cs t → ¬ S d := fun d cs t hb hs => by have := hb.lt; have := hS d hs; omega
  obtain ⟨xs, ho, _⟩ := h.own
  exact h.mod hm (hlt _ _ _ h.blk) (fun a ha => by obtain ⟨cur, hc⟩ := own_type ho ha; exact hlt _ _ _ hc) (fun d cs hb => hlt _ _ _ hb)
theorem NetAt.dr {B g s : Nat} {w w' : World} {v : Value} {L : List Let} (h : NetAt B w g v L s) (hd : Dr w w') : NetAt B w' g v L s := h.new (hd.mod (S := fun _ => False)) (fun _ h => h.elim)
theorem NetAt.slice {B g s : Nat} {w : World} {v : Value} {L : List Let} (h : NetAt B w g v L s) : ∃ A c, v = .slice A L.length c := by
  obtain ⟨xs, ho, _⟩ := h.own
  rcases own_cases ho with ⟨rfl, hn, _⟩ | ⟨g, cap, cur, rfl, _⟩
  · exact ⟨none, 0, by rw [hn]⟩
  · exact ⟨_, cap, rfl⟩
theorem NetAt.cells {B g s : Nat} {w : World} {v : Value} {L : List Let} (h : NetAt B w g v L s) : w.cell? ⟨g, 0, none⟩ = some v ∧ w.cell? ⟨g, 1, none⟩ = some (.int .u64 s) ∧ w.frozen? ⟨g, 0, none⟩ = false ∧ w.frozen? ⟨g, 1, none⟩ = false :=
  ⟨h.blk.cell 0, h.blk.cell 1, h.blk.frozen 0, h.blk.frozen 1⟩

/-- A new net, somewhere new. -/
def NewNet (w : World) (e : Ending) (w' : World) : Prop := ∃ g, w.heap.size ≤ g ∧ e = .returned (.pointer (some ⟨g, 0, none⟩)) ∧ NetAt w.heap.size w' g (.slice none 0 0) [] 0 ∧ Mod (fun _ => False) w w'
theorem new_any (w : World) : Calls Try.prog 8 #[] w (NewNet w) := by
  go_enter Try.func8, Try.ntmps8
  go_wp2
  go_ret
  exact ⟨w.heap.size, Nat.le_refl _, rfl, ⟨Blk.new _ _ _, ⟨[], World.ownsRow_nil _ _ _ _, rfl⟩, Nat.le_refl _, by decide, by decide⟩, (Mod.refl _ _).alloc _⟩

theorem len_any (B g s : Nat) (v : Value) (L : List Let) (w : World) (h : NetAt B w g v L s) : Calls Try.prog 10 #[.pointer (some ⟨g, 0, none⟩)] w fun e w' => e = .returned (.int .i64 L.length) ∧ w = w' := by
  obtain ⟨A, c, rfl⟩ := h.slice
  obtain ⟨c0, c1, f0, f1⟩ := h.cells
  go_enter Try.func10, Try.ntmps10
  go_wp2
  go_ret
  exact ⟨rfl, rfl⟩

theorem split_any (B g s : Nat) (v : Value) (L : List Let) (w : World) (h : NetAt B w g v L s) (s' : Nat) (hs : s' < 18446744073709551616) :
    Calls Try.prog 16 #[.pointer (some ⟨g, 0, none⟩), .int .u64 s'] w fun e w' => e = .returned (.tuple #[]) ∧ NetAt B w' g v L s' ∧ Mod (· = g) w w' ∧ w'.heap.size = w.heap.size := by
  obtain ⟨c0, c1, f0, f1⟩ := h.cells
  have hb := h.blk.set 1 (.int .u64 s')
  have hne : ∀ d cs, Blk w d cs 5 → ¬ d = g := fun d cs hd => Blk.ne hd h.blk (by decide)
  have hav : ∀ a, v.ownBlock = some a → ¬ a = g := fun a ha => by obtain ⟨xs, ho, _⟩ := h.own; obtain ⟨cur, hc⟩ := own_type ho ha; exact Blk.ne hc h.blk (by decide)
  have hm : Mod (· = g) w (w.setCell ⟨g, 1, none⟩ (.int .u64 s')) := (Mod.refl (· = g) w).setCell (p := ⟨g, 1, none⟩) (.inl rfl) _
  have hn : NetAt B (w.setCell ⟨g, 1, none⟩ (.int .u64 s')) g v L s' := by
    obtain ⟨xs, ho, hl⟩ := h.own
    exact ⟨hb, ⟨xs, own_mod ho hm hav, hl.mod hm hne⟩, h.base, hs, h.few⟩
  have Hn := Lib.hid hn
  have Hm := Lib.hid hm
  clear hb hne hav hm hn
  go_enter Try.func16, Try.ntmps16
  go_wp2
  go_end0
  exact ⟨rfl, Hn.out, Hm.out, by simp⟩

/-- What Look tells: a letter, its bytes in new memory, or nothing. -/
def Looked (L : List Let) (i : Int) (w : World) (e : Ending) (w' : World) : Prop :=
  Mod (fun _ => False) w w' ∧ ((∃ v, (∃ h : i.toNat < L.length, 0 ≤ i ∧ e = .returned (.tuple #[.int .i64 L[i.toNat].f, .int .i64 L[i.toNat].t, v, .bool true]) ∧ By w' w.heap.size v L[i.toNat].b)) ∨
    (¬ (0 ≤ i ∧ i < L.length) ∧ e = .returned (.tuple #[.int .i64 0, .int .i64 0, .slice none 0 0, .bool false]) ∧ w = w'))

/-- What Look's last statement knows of its worlds: the letter in its box. -/
def LookS (w : World) (h8 : Nat) (l : Let) (bv : Value) (W : World) : Prop :=
  W.cell? ⟨h8, 0, none⟩ = some (.int .i64 l.f) ∧ W.cell? ⟨h8, 1, none⟩ = some (.int .i64 l.t) ∧ W.cell? ⟨h8, 2, none⟩ = some bv ∧ By W 0 bv l.b ∧ Mod (fun _ => False) w W
theorem cell_mod {S : Nat → Prop} {w w' : World} (hm : Mod S w w') {a : Addr} {v : Value} (hc : w.cell? a = some v) (ha : ¬ S a.block) : w'.cell? a = some v :=
  (World.cell?_of_block (w := w) (hm.block _ (World.block_lt_of_cell? w a hc) ha)).trans hc
theorem LookS.mod {w W W' : World} {h8 : Nat} {l : Let} {bv : Value} (h : LookS w h8 l bv W) (hm : Mod (fun _ => False) W W') : LookS w h8 l bv W' :=
  ⟨cell_mod hm h.1 (fun h => h), cell_mod hm h.2.1 (fun h => h), cell_mod hm h.2.2.1 (fun h => h), own_mod h.2.2.2.1 hm (fun _ _ h => h), h.2.2.2.2.trans hm (fun _ h => h.elim)⟩
/-- The same, its cells laid open. -/
def LookT (w : World) (h8 : Nat) (l : Let) (bv : Value) (W : World) : Prop :=
  W.cell? ⟨h8, 0, none⟩ = some (.int .i64 l.f) ∧ W.cell? ⟨h8, 1, none⟩ = some (.int .i64 l.t) ∧ W.cell? ⟨h8, 2, none⟩ = some bv ∧ LookS w h8 l bv W
theorem LookS.open_ {w W : World} {h8 : Nat} {l : Let} {bv : Value} (h : LookS w h8 l bv W) : W.cell? ⟨h8, 0, none⟩ = some (.int .i64 l.f) ∧ W.cell? ⟨h8, 1, none⟩ = some (.int .i64 l.t) ∧ W.cell? ⟨h8, 2, none⟩ = some bv ∧ LookS w h8 l bv W := ⟨h.1, h.2.1, h.2.2.1, h⟩
theorem LookS.keep {w W W' : World} {h8 : Nat} {l : Let} {bv : Value} (h : W.cell? ⟨h8, 0, none⟩ = some (.int .i64 l.f) ∧ W.cell? ⟨h8, 1, none⟩ = some (.int .i64 l.t) ∧ W.cell? ⟨h8, 2, none⟩ = some bv ∧ LookS w h8 l bv W) (hm : Mod (fun _ => False) W W') :
    W'.cell? ⟨h8, 0, none⟩ = some (.int .i64 l.f) ∧ W'.cell? ⟨h8, 1, none⟩ = some (.int .i64 l.t) ∧ W'.cell? ⟨h8, 2, none⟩ = some bv ∧ LookS w h8 l bv W' := (h.2.2.2.mod hm).open_
theorem LookS.by_ {w W : World} {h8 : Nat} {l : Let} {bv : Value} (h : W.cell? ⟨h8, 0, none⟩ = some (.int .i64 l.f) ∧ W.cell? ⟨h8, 1, none⟩ = some (.int .i64 l.t) ∧ W.cell? ⟨h8, 2, none⟩ = some bv ∧ LookS w h8 l bv W) : By W 0 bv l.b := h.2.2.2.2.2.2.1

set_option maxHeartbeats 1600000 in
theorem look_any (B g s : Nat) (v : Value) (L : List Let) (i : Int) (w : World) (h : NetAt B w g v L s) (hb : ∀ l ∈ L, l.b.length ≤ 1000000) : Calls Try.prog 11 #[.pointer (some ⟨g, 0, none⟩), .int .i64 i] w (Looked L i w) := by
  obtain ⟨xs, ho, hl⟩ := h.own
  obtain ⟨c0, c1, f0, f1⟩ := h.cells
  by_cases hin : 0 ≤ i ∧ i < L.length
  · obtain ⟨h0, h1⟩ := hin
    obtain ⟨k, rfl⟩ := Int.eq_ofNat_of_zero_le h0
    have hk : k < L.length := by omega
    rcases own_cases ho with ⟨rfl, hn, _⟩ | ⟨a, cap, cur, rfl, hba, hB, hn, hc, hs, hx⟩
    · omega
    obtain ⟨bv, x0, x1, x2, hby⟩ := hl.get k hk
    have hcell : ∀ j u, xs[k * 3 + j]? = some u → w.cell? ⟨a, k * 3 + j, none⟩ = some u := fun j u hu => by
      have hj : k * 3 + j < L.length * 3 := by have := (List.getElem?_eq_some_iff.1 hu).1; rw [hl.len] at this; exact this
      rw [hB.cell]
      rw [← hx, List.getElem?_take_of_lt hj] at hu
      simpa using hu
    have hmem := List.getElem_mem hk
    obtain ⟨l, hl'⟩ : ∃ l, L[k] = l := ⟨_, rfl⟩
    have hlk : L[(k : Int).toNat]'(by simpa using hk) = l := hl'
    rw [hl'] at x0 x1 hby hmem
    have hlb := hb l hmem
    have d0 : w.cell? ⟨a, k * 3, none⟩ = some (.int .i64 l.f) := hcell 0 _ x0
    have d1 := hcell 1 _ x1
    have d2 := hcell 2 _ x2
    obtain ⟨A, c, rfl⟩ := hby.form
    have hlt := hB.lt
    have Hby := Lib.hid hby
    have HB := Lib.hid hB
    have Hlk := Lib.hid hlk
    clear hcell x0 x1 x2 hby hB hs hx ho hl h hmem hl' hlk hb
    go_enter Try.func11, Try.ntmps11
    go_wp2
    have hbox := Blk.new w #[.int .i64 l.f, .int .i64 l.t, .slice A l.b.length c] 57
    have hmW : Mod (fun _ => False) w (w.alloc (.cells #[.int .i64 l.f, .int .i64 l.t, .slice A l.b.length c] 57)) := (Mod.refl _ _).alloc _
    have hbyW := own_mod Hby.out hmW (fun _ _ h => h)
    generalize w.alloc (.cells #[.int .i64 l.f, .int .i64 l.t, .slice A l.b.length c] 57) = W at *
    obtain ⟨h8, hh8⟩ : ∃ h8, w.heap.size = h8 := ⟨_, rfl⟩
    rw [hh8] at hbox ⊢
    have e0 : W.cell? ⟨h8, 0, none⟩ = some (.int .i64 l.f) := hbox.cell 0
    have e1 : W.cell? ⟨h8, 1, none⟩ = some (.int .i64 l.t) := hbox.cell 1
    have e2 : W.cell? ⟨h8, 2, none⟩ = some (.slice A l.b.length c) := hbox.cell 2
    have Hbw := Lib.hid hbyW
    have Hmw := Lib.hid hmW
    have H8 := Lib.hid hh8
    clear hbox hbyW hmW hh8 c0 c1 f0 f1 d0 d1 d2
    have hS0 : LookS w h8 l (.slice A l.b.length c) W.drew := ⟨e0, e1, e2, Hbw.out, Hmw.out.drew⟩
    have HS0 := hS0.open_
    clear e0 e1 e2
    go_region_held3 (fun w' => w'.cell? ⟨h8, 0, none⟩ = some (.int .i64 l.f) ∧ w'.cell? ⟨h8, 1, none⟩ = some (.int .i64 l.t) ∧ w'.cell? ⟨h8, 2, none⟩ = some (.slice A l.b.length c) ∧ LookS w h8 l (.slice A l.b.length c) w')
      (first | assumption | exact LookS.keep (by assumption) hm9)
      (first | (go_at_call 24; refine (clone_any _ 0 _ l.b (LookS.by_ (w := w) (h8 := h8) (by assumption)) hlb).mono ?_; rintro e w' ⟨v9, rfl, hby9, hm9⟩))
    have hfin : Looked L (k : Int) w (.returned (.tuple #[.int .i64 l.f, .int .i64 l.t, v9, .bool true])) w' := by
      refine ⟨Hmw.out.trans (hm9.undrew) (fun _ h => h.elim), .inl ⟨v9, by simpa using hk, h0, ?_, ?_⟩⟩
      · rw [Hlk.out]
      · rw [Hlk.out]
        exact own_base hby9 (by have := Hmw.out.size; exact this)
    have Hfin := Lib.hid hfin
    clear hby9 hm9 hfin
    go_wp2
    exact bodyPost_ret (v := .tuple #[.int .i64 l.f, .int .i64 l.t, v9, .bool true]) (by simp [results, Try.results11, go_sem]) rfl Hfin.out
  · obtain ⟨A, c, rfl⟩ := h.slice
    have hx : i < 0 ∨ (0 ≤ i ∧ (L.length : Int) ≤ i) := by omega
    clear ho hl
    rcases hx with h0 | ⟨h0, h1⟩
    all_goals
      go_enter Try.func11, Try.ntmps11
      go_wp2
      exact bodyPost_ret (v := .tuple #[.int .i64 0, .int .i64 0, .slice none 0 0, .bool false]) (by simp [results, Try.results11, go_sem]) rfl ⟨Mod.refl _ _, .inr ⟨hin, rfl, rfl⟩⟩
end Go.Proofs.Ytjhlabpnjkepbaa
