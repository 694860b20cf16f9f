/-
  Copy and Take.
-/
import Derived.Test.YtjhlabpnjkepbaaNe
namespace Go.Proofs.Ytjhlabpnjkepbaa
open Go.RowKit Mem
set_option linter.unusedVariables false

def Kept (B g : Nat) (v : Value) (L' : List Let) (s' : Nat) (w w' : World) : Prop := KeptR (fun _ => False) B g v L' s' w w'
theorem KeptR.kept {R : Nat → Prop} {B g s : Nat} {v : Value} {L : List Let} {w w' : World} (h : KeptR R B g v L s w w') : Kept B g v L s w w' := by
  obtain ⟨v', h1, h2, h3⟩ := h
  exact ⟨v', fun w'' hm => h1 w'' (hm.mono (fun _ h => h.elim)), h2, h3⟩
theorem Kept.same {B g s : Nat} {v : Value} {L : List Let} {w w' : World} (h : NetAt B w g v L s) (hm : Mod (fun _ => False) w w') : Kept B g v L s w w' :=
  ⟨v, fun w'' hm'' => h.new (hm.trans hm'' (fun _ h => h.elim)) (fun _ h => h.elim), fun a ha => .inl ha, hm.mono (fun _ h => h.elim)⟩
theorem Kept.from_ {B g s : Nat} {v : Value} {L : List Let} {w0 w w' : World} (h : Kept B g v L s w w') (hm : Mod (fun _ => False) w0 w) : Kept B g v L s w0 w' := by
  obtain ⟨v', h1, h2, h3⟩ := h
  refine ⟨v', h1, fun a ha => ?_, (hm.mono (fun _ h => h.elim)).trans h3 (fun i hi => .inl hi)⟩
  rcases h2 a ha with h | h
  · exact .inl h
  · exact .inr (by have := hm.size; omega)

def copyOk (L : List Let) (i : Int) : Bool := decide (0 ≤ i ∧ i < L.length ∧ L.length < 200)
def copied (L : List Let) (i : Int) : List Let := if copyOk L i then L ++ L[i.toNat]?.toList else L

set_option maxRecDepth 100000 in
set_option maxHeartbeats 3200000 in
theorem copy_any (B g s : Nat) (v : Value) (L : List Let) (i : Int) (w : World) (h : NetAt B w g v L s) (hb : ∀ l ∈ L, l.b.length ≤ 1000000) :
    Calls Try.prog 13 #[.pointer (some ⟨g, 0, none⟩), .int .i64 i] w fun e w' => e = .returned (.bool (copyOk L i)) ∧ Kept B g v (copied L i) s w w' := by
  obtain ⟨xs, ho, hl⟩ := h.own
  obtain ⟨A, c, hAc⟩ := h.slice
  have hBh : B ≤ w.heap.size := by have := h.blk.lt; have := h.base; omega
  have hlook := look_any B g s v L i w h hb
  have hput := fun hL sb bv1 w1 f t b hm1 hby hV => send_put (g := g) (sb := sb) (bv := bv1) (w0 := w) (w := w) (w1 := w1) (f := f) (t := t) (b := b) h (Mod.refl _ w) ho hl hL hBh hm1 hby hV
  obtain ⟨c0, c1, f0, f1⟩ := h.cells
  subst hAc
  have Hlook := Lib.hid hlook
  have Hput := Lib.hid hput
  have Hh := Lib.hid h
  clear hlook hput ho hl h hBh
  go_enter Try.func13, Try.ntmps13
  go_wp2_with (fail)
  refine Hlook.out.mono ?_
  rintro e w2 ⟨hm2, ⟨v2, ⟨hk, h0, rfl, hby⟩⟩ | ⟨hno, rfl, rfl⟩⟩
  · obtain ⟨A2, k2, rfl⟩ := hby.form
    have c2 := cell_mod hm2 c0 (fun h => h)
    by_cases hL : L.length < 200
    · have hL' : ¬ (200 ≤ (L.length : Int)) := by omega
      have hok : copyOk L i = true := by unfold copyOk; rw [decide_eq_true]; omega
      have hcp : copied L i = L ++ [⟨L[i.toNat].f, L[i.toNat].t, L[i.toNat].b⟩] := by unfold copied; rw [if_pos hok, List.getElem?_eq_getElem hk]; rfl
      have Hok := Lib.hid hok
      have Hcp := Lib.hid hcp
      have Hm2 := Lib.hid hm2
      have Hby := Lib.hid hby
      clear hok hcp hm2 hby
      generalize L[i.toNat].f = lf, L[i.toNat].t = lt, L[i.toNat].b = lb at *
      go_wp2_with (at_builtin; obtain ⟨v8, w8, hr8, hc8, hf8, hk8, A8, k8, rfl⟩ := Hput.out hL _ _ _ lf lt lb (Hm2.out.alloc _) (own_mod Hby.out ((Mod.refl (fun _ => False) _).alloc _) (fun _ _ h => h)) (Blk.new _ _ _); refine wpList_append_run rfl _ _ 50 50 rfl _ _ rfl rfl hr8 ?_)
      have Hk8 := Lib.hid hk8
      clear hk8 hr8
      go_wp2
      go_ret
      exact ⟨by rw [Hok.out]; rfl, by rw [Hcp.out]; exact Hk8.out.kept⟩
    · have hok : copyOk L i = false := by unfold copyOk; rw [decide_eq_false]; omega
      have hcp : copied L i = L := by unfold copied; rw [hok]; rfl
      have hL' : (200 ≤ (L.length : Int)) := by omega
      have Hok := Lib.hid hok
      have Hcp := Lib.hid hcp
      clear hok hcp
      go_wp2
      go_ret
      exact ⟨by rw [Hok.out]; rfl, by rw [Hcp.out]; exact Kept.same Hh.out hm2⟩
  · have hok : copyOk L i = false := by unfold copyOk; rw [decide_eq_false]; omega
    have hcp : copied L i = L := by unfold copied; rw [hok]; rfl
    have Hok := Lib.hid hok
    have Hcp := Lib.hid hcp
    clear hok hcp
    go_wp2
    go_ret
    exact ⟨by rw [Hok.out]; rfl, by rw [Hcp.out]; exact Kept.same Hh.out (Mod.refl _ _)⟩

/-- Letters as the law sends them. -/
def Good (L : List Let) : Prop := ∀ l ∈ L, l.b.length ≤ 1000000 ∧ 0 ≤ l.f ∧ l.f ≤ 63 ∧ 0 ≤ l.t ∧ l.t ≤ 63

theorem cut_len {α : Type} (L : List α) (i : Nat) (hi : i < L.length) : (L.take i ++ L.drop (i + 1)).length = L.length - 1 := by simp; omega
/-- A letter taken out of the row, and the row laid back. -/
theorem del_put {B g s a i n cap : Nat} {L : List Let} {xs : List Value} {w w1 : World} {e : Ending} (h : NetAt B w g (.slice (some ⟨a, 0, none⟩) n cap) L s) (hn : n = L.length) (hcap : n ≤ cap) (hmax : cap ≤ maxLen) (hBa : B ≤ a) (cur : Array Value) (hA : Blk w a cur 57) (hl : Lets w L xs) (hi : i < n) (hd : Deleted a i n cap xs w e w1) :
    w1.cell? ⟨g, 0, none⟩ = some (.slice (some ⟨a, 0, none⟩) n cap) ∧ w1.frozen? ⟨g, 0, none⟩ = false ∧ w1.ownsRow B 57 3 (.slice (some ⟨a, 0, none⟩) (n - 1) cap) (n - 1) (xs.take (i * 3) ++ xs.drop ((i + 1) * 3)) ∧
    Kept B g (.slice (some ⟨a, 0, none⟩) n cap) (L.take i ++ L.drop (i + 1)) s w (w1.setCell ⟨g, 0, none⟩ (.slice (some ⟨a, 0, none⟩) (n - 1) cap)) := by
  obtain ⟨rfl, hm, hsz, cur', hA', hs', hx'⟩ := hd
  have hga : ¬ g = a := Blk.ne h.blk hA (by decide)
  have hb1 := h.blk.mod hm hga
  have ho1 : w1.ownsRow B 57 3 (.slice (some ⟨a, 0, none⟩) (n - 1) cap) (n - 1) (xs.take (i * 3) ++ xs.drop ((i + 1) * 3)) := own_of hA' hBa (by omega) hmax hs' hx'
  refine ⟨hb1.cell 0, hb1.frozen 0, ho1, put_net (v := .slice (some ⟨a, 0, none⟩) n cap) h.blk.lt (hm.mono (fun b hb => .inr (by simp [Value.ownBlock, hb]))) hb1 (L1 := L.take i ++ L.drop (i + 1)) (xs1 := xs.take (i * 3) ++ xs.drop ((i + 1) * 3)) ?_ ?_ (fun h => h) (fun _ _ h => h) (fun b hb => .inl (by simpa [Value.ownBlock] using hb)) h.base h.sides ?_⟩
  · rw [cut_len L i (by omega), ← hn]; exact ho1
  · intro w'' hm''
    have hl' : Lets w'' L xs := hl.mod (S := fun b => b = g ∨ b = a) ((hm.mono (T := fun b => b = g ∨ b = a) (fun b hb => .inr hb)).trans hm'' (fun b hb => .inl (.inl (hb.resolve_right (fun h => h))))) (fun d cs hd hS => by
      rcases hS with hS | hS
      · exact Blk.ne hd h.blk (by decide) hS
      · exact Blk.ne hd hA (by decide) hS)
    exact (hl'.take i).append (hl'.drop (i + 1))
  · rw [cut_len L i (by omega)]; have := h.few; omega

theorem Lets.one {w : World} : ∀ {L : List Let} {xs : List Value}, Lets w L xs → ∀ u ∈ xs, u.oneCell' = true
  | [], xs, h, u, hu => by rw [show xs = [] from h] at hu; cases hu
  | l :: L, xs, h, u, hu => by
    obtain ⟨v, r, rfl, hv, hr⟩ := h
    simp only [List.mem_cons] at hu
    rcases hu with rfl | rfl | rfl | hu
    · rfl
    · rfl
    · exact hv.one
    · exact hr.one u hu
/-- Is a letter there, and does it reach? -/
def takeOk (L : List Let) (s : Nat) (i : Int) : Bool := match L[i.toNat]? with
  | some l => decide (0 ≤ i) && reach s l.f l.t
  | none => false
/-- What Take leaves. -/
def Took (B g s : Nat) (v : Value) (L : List Let) (i : Int) (w : World) (e : Ending) (w' : World) : Prop :=
  (∃ v2, ∃ h : i.toNat < L.length, takeOk L s i = true ∧ e = .returned (.tuple #[.int .i64 L[i.toNat].f, .int .i64 L[i.toNat].t, v2, .bool true]) ∧ By w' w.heap.size v2 L[i.toNat].b ∧ Kept B g v (L.take i.toNat ++ L.drop (i.toNat + 1)) s w w') ∨
  (takeOk L s i = false ∧ e = .returned (.tuple #[.int .i64 0, .int .i64 0, .slice none 0 0, .bool false]) ∧ Kept B g v L s w w')

set_option maxRecDepth 100000 in
set_option maxHeartbeats 3200000 in
theorem take_any (B g s : Nat) (v : Value) (L : List Let) (i : Int) (w : World) (h : NetAt B w g v L s) (hb : Good L) :
    Calls Try.prog 15 #[.pointer (some ⟨g, 0, none⟩), .int .i64 i] w (Took B g s v L i w) := by
  have hlook := look_any B g s v L i w h (fun l hl => (hb l hl).1)
  have Hlook := Lib.hid hlook
  have Hh := Lib.hid h
  have Hb := Lib.hid hb
  clear hlook h hb
  go_enter Try.func15, Try.ntmps15
  go_wp2_with (fail)
  refine Hlook.out.mono ?_
  rintro e w2 ⟨hm2, ⟨v2, ⟨hk, h0, rfl, hby⟩⟩ | ⟨hno, rfl, rfl⟩⟩
  · have hnet : NetAt B w2 g v L s := Hh.out.new hm2 (fun _ h => h.elim)
    have hg := Hb.out _ (List.getElem_mem hk)
    have hrc := reach_any g v s L[i.toNat].f L[i.toNat].t w2 hnet.blk hnet.sides (by omega) (by omega) (by omega) (by omega)
    have Hrc := Lib.hid hrc
    have hok : takeOk L s i = reach s L[i.toNat].f L[i.toNat].t := by unfold takeOk; rw [List.getElem?_eq_getElem hk]; simp [h0]
    by_cases hr : reach s L[i.toNat].f L[i.toNat].t = true
    · rw [hr] at hok
      rw [hr] at Hrc
      obtain ⟨k, rfl⟩ := Int.eq_ofNat_of_zero_le h0
      have hkn : ((k : Int)).toNat = k := by simp
      obtain ⟨xs, ho, hl⟩ := hnet.own
      rcases own_cases ho with ⟨_, hn0, _⟩ | ⟨a, cap, cur, rfl, hba, hB, hn, hc, hs, hx⟩
      · omega
      have hk' : k < L.length := by omega
      have hc' := hc
      unfold maxLen at hc'
      have hfin : ∀ w3 e w4, Dr w2 w3 → Deleted a k L.length cap xs w3 e w4 → w4.cell? ⟨g, 0, none⟩ = some (.slice (some ⟨a, 0, none⟩) L.length cap) ∧ w4.frozen? ⟨g, 0, none⟩ = false ∧ Took B g s (.slice (some ⟨a, 0, none⟩) L.length cap) L k w (.returned (.tuple #[.int .i64 L[(k : Int).toNat].f, .int .i64 L[(k : Int).toNat].t, v2, .bool true])) (w4.setCell ⟨g, 0, none⟩ (.slice (some ⟨a, 0, none⟩) (L.length - 1) cap)) := by
        intro w3 e w4 hd3 hd
        have h3 := hnet.dr hd3
        have hm23 : Mod (fun _ => False) w2 w3 := hd3.mod
        have hl3 : Lets w3 L xs := hl.mod hm23 (fun _ _ _ h => h)
        obtain ⟨c4, f4, ho4, hk4⟩ := del_put h3 rfl hn hc hba cur (hB.dr hd3) hl3 hk' hd
        refine ⟨c4, f4, .inl ⟨v2, hk, hok, rfl, ?_, ?_⟩⟩
        · have hs2 := hm2.size
          refine own_mod hby ((hm23.mono (T := fun b => b = g ∨ (Value.slice (some ⟨a, 0, none⟩) L.length cap).ownBlock = some b) (fun _ h => h.elim)).trans (hk4.choose_spec.2.2) (fun i hi => .inl hi)) (fun d hd' hS => ?_)
          obtain ⟨cd, hcd⟩ := own_type hby hd'
          rcases hS with hS | hS
          · exact Blk.ne hcd hnet.blk (by decide) hS
          · obtain ⟨ce, hce⟩ := own_type ho hS
            exact Blk.ne hcd hce (by decide) rfl
        · have := hk4.from_ (hm2.trans hm23 (fun _ h => h.elim))
          rw [hkn]
          exact this
      have hdel : ∀ w3, Dr w2 w3 → Calls Try.prog 26 #[.slice (some ⟨a, 0, none⟩) L.length cap, .int .i64 (k : Int), .int .i64 ((k : Int) + 1)] w3 (Deleted a k L.length cap xs w3) := fun w3 hd3 =>
        delete_any a k L.length cap cur xs w3 (hB.dr hd3) hs hx hk' hn hc hl.one
      have hcell : ∀ w3, Dr w2 w3 → w3.cell? ⟨g, 0, none⟩ = some (.slice (some ⟨a, 0, none⟩) L.length cap) := fun w3 hd3 => (hnet.dr hd3).cells.1
      have Hfin := Lib.hid hfin
      have Hdel := Lib.hid hdel
      have Hcell := Lib.hid hcell
      have hw1 : IntKind.i64.wrap ((k : Int) + 1) = (k : Int) + 1 := by rw [IntKind.wrap_i64]; omega
      have hq1 : (L.length : Int) - 1 = ((L.length - 1 : Nat) : Int) := by omega
      clear hfin hdel hcell hok hr hrc hg hnet hm2 hby ho hl hB hs hx hc hn hc'
      generalize L[(k : Int).toNat].f = lf, L[(k : Int).toNat].t = lt at *
      go_wp2_with (fail)
      refine Hrc.out.mono ?_
      rintro e w3 ⟨rfl, hd3⟩
      have c3 := Hcell.out w3 hd3
      go_wp2_with (fail)
      refine (Hdel.out _ hd3).mono ?_
      rintro e w4 hd4
      obtain ⟨c4, f4, ht4⟩ := Hfin.out w3 e w4 hd3 hd4
      obtain ⟨rfl, _⟩ := hd4
      have Ht4 := Lib.hid ht4
      clear ht4
      go_wp2
      exact bodyPost_ret (v := .tuple #[.int .i64 lf, .int .i64 lt, v2, .bool true]) (by simp [results, Try.results15, go_sem]) rfl Ht4.out
    · have hr' : reach s L[i.toNat].f L[i.toNat].t = false := by simpa using hr
      rw [hr'] at hok
      rw [hr'] at Hrc
      have hfin : ∀ w3, Dr w2 w3 → Took B g s v L i w (.returned (.tuple #[.int .i64 0, .int .i64 0, .slice none 0 0, .bool false])) w3 := fun w3 hd => .inr ⟨hok, rfl, Kept.same Hh.out (hm2.trans (hd.mod (S := fun _ => False)) (fun _ h => h.elim))⟩
      have Hfin := Lib.hid hfin
      clear hfin hok hr hr' hrc hg hnet hm2 hby
      go_wp2_with (fail)
      refine Hrc.out.mono ?_
      rintro e w3 ⟨rfl, hd3⟩
      go_wp2
      exact bodyPost_ret (v := .tuple #[.int .i64 0, .int .i64 0, .slice none 0 0, .bool false]) (by simp [results, Try.results15, go_sem]) rfl (Hfin.out _ hd3)
  · have hok : takeOk L s i = false := by
      unfold takeOk
      split
      · rename_i l hl
        have := (List.getElem?_eq_some_iff.1 hl).1
        rw [decide_eq_false (by omega)]; rfl
      · rfl
    have hfin : Took B g s v L i w (.returned (.tuple #[.int .i64 0, .int .i64 0, .slice none 0 0, .bool false])) w := .inr ⟨hok, rfl, Kept.same Hh.out (Mod.refl _ _)⟩
    have Hfin := Lib.hid hfin
    clear hok hno hfin
    go_wp2
    exact bodyPost_ret (v := .tuple #[.int .i64 0, .int .i64 0, .slice none 0 0, .bool false]) (by simp [results, Try.results15, go_sem]) rfl Hfin.out
end Go.Proofs.Ytjhlabpnjkepbaa
