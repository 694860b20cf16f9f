/-
  What a net's turning leaves: Send, Copy.
-/
import Derived.Test.YtjhlabpnjkepbaaNc
import Derived.Deep.RegionLaw
namespace Go.Proofs.Ytjhlabpnjkepbaa
open Go.RowKit Mem
set_option linter.unusedVariables false

/-- A net turned in its place; whatever is done to the blocks of R afterwards. -/
def KeptR (R : Nat → Prop) (B g : Nat) (v : Value) (L' : List Let) (s' : Nat) (w w' : World) : Prop :=
  ∃ v', (∀ w'', Mod R w' w'' → NetAt B w'' g v' L' s') ∧ (∀ a, v'.ownBlock = some a → v.ownBlock = some a ∨ w.heap.size ≤ a) ∧ Mod (fun b => b = g ∨ v.ownBlock = some b) w w'

/-- A letter appended. -/
theorem app_letter (B n : Nat) (v : Value) (xs : List Value) (w : World) (hown : w.ownsRow B 57 3 v n xs) (hn : n < 200) (sb : Nat) (f t : Int) (bv : Value) (h1 : bv.oneCell' = true) (hV : Blk w sb #[.int .i64 f, .int .i64 t, bv] 57) (hB : B ≤ w.heap.size) :
    ∃ v' w', (Builtin.append_ #[50, 50] 50 #[v, .slice (some ⟨sb, 0, none⟩) 1 1]).run Try.prog w = .ok v' w' ∧ w'.ownsRow B 57 3 v' (n + 1) (xs ++ [.int .i64 f, .int .i64 t, bv]) ∧ Mod (fun b => v.ownBlock = some b) w w' ∧ (∀ a, v'.ownBlock = some a → v.ownBlock = some a ∨ w.heap.size ≤ a) ∧ ∃ A k, v' = .slice A (n + 1) k := by
  obtain ⟨i57, hi57, hz0, hz1, hz2⟩ := info_parts info57
  obtain ⟨a, cap, w', hr, ho, hg, hor, hlt⟩ := run_append_lies w 50 50 B 57 i57 _ 3 40 Try.underlying50 hi57 hz0 hz1 hz2 rfl (by omega) v n xs hown ⟨sb, 0, none⟩ 1 1 [.int .i64 f, .int .i64 t, bv] rfl
    (fun j u hj => by rw [Addr.add_lit, hV.cell]; simpa using hj)
    (by intro u hu; simp only [List.mem_cons, List.not_mem_nil, or_false] at hu; rcases hu with rfl | rfl | rfl; rfl; rfl; exact h1)
    (by omega) (by unfold maxLen; omega) (by omega) hB w.heap.size rfl
  refine ⟨_, w', hr, ho, (Mod.refl _ w).grown hg (fun k hk => .inl hk), fun b hb => ?_, _, _, rfl⟩
  have : b = a := by simpa [Value.ownBlock, eq_comm] using hb
  subst this
  rcases hor with h | h
  · exact .inl h
  · exact .inr (by omega)

/-- The new row laid into the net. -/
theorem put_net {R : Nat → Prop} {B g s : Nat} {v v1 : Value} {L1 : List Let} {xs1 : List Value} {w w1 : World} (hg : g < w.heap.size) (hm : Mod (fun b => b = g ∨ v.ownBlock = some b) w w1) (hb : Blk w1 g #[v, .int .u64 s] 52) (ho : w1.ownsRow B 57 3 v1 L1.length xs1)
    (hl : ∀ w'', Mod (fun b => b = g ∨ R b) w1 w'' → Lets w'' L1 xs1) (hRg : ¬ R g) (hRv : ∀ a, v1.ownBlock = some a → ¬ R a) (hv : ∀ a, v1.ownBlock = some a → v.ownBlock = some a ∨ w.heap.size ≤ a)
    (hB : B ≤ g) (hs : s < 18446744073709551616) (hn : L1.length ≤ 200) : KeptR R B g v L1 s w (w1.setCell ⟨g, 0, none⟩ v1) := by
  have hset : Mod (· = g) w1 (w1.setCell ⟨g, 0, none⟩ v1) := (Mod.refl (· = g) w1).setCell (p := ⟨g, 0, none⟩) (.inl rfl) _
  have hgv : ∀ a, v1.ownBlock = some a → ¬ a = g := fun a ha => by obtain ⟨cur, hc⟩ := own_type ho ha; exact Blk.ne hc hb (by decide)
  refine ⟨v1, fun w'' hm'' => ⟨(hb.set 0 v1).mod hm'' hRg, ⟨xs1, own_mod (own_mod ho hset hgv) hm'' hRv, ?_⟩, hB, hs, hn⟩, hv, ?_⟩
  · refine hl w'' ((hset.mono (fun i hi => .inl hi)).trans (hm''.mono (fun i hi => ?_)) (fun i hi => .inl hi))
    exact .inr hi
  · exact hm.trans (hset.mono (T := fun b => b = g ∨ v.ownBlock = some b) (fun i hi => .inl hi)) (fun i hi => .inl hi)
theorem By.one {w : World} {base : Nat} {v : Value} {b : List UInt8} (h : By w base v b) : v.oneCell' = true := by
  obtain ⟨A, c, rfl⟩ := h.form
  rfl

def sent (L : List Let) (f t : Int) (b : List UInt8) : List Let := if 0 ≤ f ∧ 0 ≤ t ∧ f ≤ 63 ∧ t ≤ 63 ∧ L.length < 200 then L ++ [⟨f, t, b⟩] else L
/-- What Send leaves. -/
def Sent (B g s : Nat) (v : Value) (L' : List Let) (w0 w : World) (e : Ending) (w' : World) : Prop :=
  e = .returned (.tuple #[]) ∧ KeptR (fun i => w0.heap.size ≤ i ∧ i < w.heap.size) B g v L' s w w'

/-- The worlds of Send's second statement: the clone is made, the letter laid out, and appended. -/
theorem send_put {B g s sb : Nat} {v bv : Value} {L : List Let} {xs : List Value} {w0 w w1 : World} {f t : Int} {b : List UInt8} (h0 : NetAt B w0 g v L s) (hm0 : Mod (fun _ => False) w0 w) (ho : w0.ownsRow B 57 3 v L.length xs) (hl : Lets w0 L xs) (hL : L.length < 200) (hB : B ≤ w0.heap.size)
    (hm1 : Mod (fun _ => False) w w1) (hb : By w1 w.heap.size bv b) (hV : Blk w1 sb #[.int .i64 f, .int .i64 t, bv] 57) :
    ∃ v' w', (Builtin.append_ #[50, 50] 50 #[v, .slice (some ⟨sb, 0, none⟩) 1 1]).run Try.prog w1 = .ok v' w' ∧ w'.cell? ⟨g, 0, none⟩ = some v ∧ w'.frozen? ⟨g, 0, none⟩ = false ∧ KeptR (fun i => w0.heap.size ≤ i ∧ i < w.heap.size) B g v (L ++ [⟨f, t, b⟩]) s w (w'.setCell ⟨g, 0, none⟩ v') ∧ ∃ A k, v' = .slice A (L.length + 1) k := by
  have hno : ∀ i, False → w0.heap.size ≤ i := fun _ h => h.elim
  have hs0 := hm0.size
  have hs1 := hm1.size
  have hm01 : Mod (fun _ => False) w0 w1 := hm0.trans hm1 (fun _ h => h.elim)
  have ho1 : w1.ownsRow B 57 3 v L.length xs := own_mod ho hm01 (fun _ _ h => h)
  obtain ⟨v', w', hr, ho', hm', hv', hform⟩ := app_letter B L.length v xs w1 ho1 hL sb f t bv hb.one hV (by omega)
  have hb0 := h0.blk
  have hgv : ∀ a, v.ownBlock = some a → a ≠ g := fun a ha => by obtain ⟨cur, hc⟩ := own_type ho ha; exact Blk.ne hc hb0 (by decide)
  have hlv : ∀ a, v.ownBlock = some a → a < w0.heap.size := fun a ha => (own_lt ho ha).2
  have hgS : ¬ (v.ownBlock = some g) := fun e => hgv g e rfl
  have hb1 : Blk w1 g #[v, .int .u64 s] 52 := hb0.mod hm01 (fun h => h)
  have hb' : Blk w' g #[v, .int .u64 s] 52 := hb1.mod hm' hgS
  refine ⟨v', w', hr, hb'.cell 0, hb'.frozen 0, put_net (L1 := L ++ [⟨f, t, b⟩]) (xs1 := xs ++ [.int .i64 f, .int .i64 t, bv]) ?_ ?_ hb' ?_ ?_ ?_ ?_ ?_ h0.base h0.sides ?_, hform⟩
  · have := hb0.lt; omega
  · exact (hm1.mono (fun _ h => h.elim)).trans (hm'.mono (T := fun b => b = g ∨ v.ownBlock = some b) (fun i hi => .inr hi)) (fun i hi => .inl hi)
  · rw [List.length_append]; exact ho'
  · intro w'' hm''
    refine Lets.append (Lets.mod (S := fun b => b = g ∨ v.ownBlock = some b ∨ (w0.heap.size ≤ b ∧ b < w.heap.size)) ?_ ?_ hl) ⟨bv, [], rfl, ?_, rfl⟩
    · refine ((hm01.mono (T := fun b => b = g ∨ v.ownBlock = some b ∨ (w0.heap.size ≤ b ∧ b < w.heap.size)) (fun _ h => h.elim)).trans hm' (fun i hi => .inl (.inr (.inl hi)))).trans hm'' (fun i hi => ?_)
      rcases hi with h | h
      · exact .inl (.inl h)
      · exact .inl (.inr (.inr h))
    · intro d cs hd hS
      rcases hS with h | h | h
      · exact Blk.ne hd hb0 (by decide) h
      · obtain ⟨cur, hc⟩ := own_type ho h; exact Blk.ne hd hc (by decide) rfl
      · have := hd.lt; omega
    · refine own_base (own_mod (own_mod hb hm' (fun d hd he => ?_)) hm'' (fun d hd he => ?_)) (Nat.zero_le _)
      · have := (own_lt hb hd).1; have := hlv d he; omega
      · have h1 := (own_lt hb hd).1
        rcases he with he | he
        · obtain ⟨cur, hc⟩ := own_type hb hd; exact Blk.ne hc hb1 (by decide) he
        · omega
  · intro h; have := hb0.lt; omega
  · intro a ha hR
    rcases hv' a ha with h | h
    · have := hlv a h; omega
    · omega
  · intro a ha
    rcases hv' a ha with h | h
    · exact .inl h
    · exact .inr (by omega)
  · simp; omega
end Go.Proofs.Ytjhlabpnjkepbaa
