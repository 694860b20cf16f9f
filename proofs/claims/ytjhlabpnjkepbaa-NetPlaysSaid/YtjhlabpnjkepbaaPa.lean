/-
  NetPlays: a net and the document's net beside it.
-/
import Derived.Test.YtjhlabpnjkepbaaSc
import Derived.Test.YtjhlabpnjkepbaaCat
import Derived.Test.YtjhlabpnjkepbaaArgs
namespace Go.Proofs.Ytjhlabpnjkepbaa
open Go.RowKit Mem
set_option linter.unusedVariables false

/-- A net, and the document's net, that hold the same. -/
structure Side (B : Nat) (w : World) (g h : Nat) (v x : Value) (L : List Let) (s : Nat) : Prop where
  n : NetAt B w g v L s
  r : RefAt B w h x L s
  good : Good L
/-- Where they stand. -/
def foot (g : Nat) (v : Value) (h : Nat) (x : Value) (i : Nat) : Prop := i = g ∨ v.ownBlock = some i ∨ i = h ∨ x.ownBlock = some i

theorem NetAt.typ {B g s : Nat} {w : World} {v : Value} {L : List Let} (hn : NetAt B w g v L s) {i : Nat} (hi : i = g ∨ v.ownBlock = some i) : ∃ cs t, Blk w i cs t ∧ (t = 52 ∨ t = 57) ∧ B ≤ i := by
  rcases hi with rfl | hi
  · exact ⟨_, _, hn.blk, .inl rfl, hn.base⟩
  · obtain ⟨xs, ho, _⟩ := hn.own
    obtain ⟨cur, hc⟩ := own_type ho hi
    exact ⟨_, _, hc, .inr rfl, (own_lt ho hi).1⟩
theorem RefAt.typ {B g s : Nat} {w : World} {v : Value} {L : List Let} (hn : RefAt B w g v L s) {i : Nat} (hi : i = g ∨ v.ownBlock = some i) : ∃ cs t, Blk w i cs t ∧ (t = 30 ∨ t = 39) ∧ B ≤ i := by
  rcases hi with rfl | hi
  · exact ⟨_, _, hn.blk, .inl rfl, hn.base⟩
  · obtain ⟨cur, hc⟩ := own_type hn.own hi
    exact ⟨_, _, hc, .inr rfl, (own_lt hn.own hi).1⟩
theorem Side.typ {B g h s : Nat} {w : World} {v x : Value} {L : List Let} (hS : Side B w g h v x L s) {i : Nat} (hi : foot g v h x i) : ∃ cs t, Blk w i cs t ∧ (t = 52 ∨ t = 57 ∨ t = 30 ∨ t = 39) ∧ B ≤ i := by
  rcases hi with hi | hi | hi | hi
  · obtain ⟨cs, t, hb, ht, hB⟩ := hS.n.typ (.inl hi); exact ⟨cs, t, hb, by rcases ht with rfl | rfl <;> simp, hB⟩
  · obtain ⟨cs, t, hb, ht, hB⟩ := hS.n.typ (.inr hi); exact ⟨cs, t, hb, by rcases ht with rfl | rfl <;> simp, hB⟩
  · obtain ⟨cs, t, hb, ht, hB⟩ := hS.r.typ (.inl hi); exact ⟨cs, t, hb, by rcases ht with rfl | rfl <;> simp, hB⟩
  · obtain ⟨cs, t, hb, ht, hB⟩ := hS.r.typ (.inr hi); exact ⟨cs, t, hb, by rcases ht with rfl | rfl <;> simp, hB⟩

/-- The net, when the document's net has turned. -/
theorem NetAt.aft {B g s h s2 : Nat} {w w' : World} {v x : Value} {L L2 : List Let} (hn : NetAt B w g v L s) (hr : RefAt B w h x L2 s2) (hm : Mod (fun b => b = h ∨ x.ownBlock = some b) w w') : NetAt B w' g v L s := by
  have key : ∀ i cs t, Blk w i cs t → t ≠ 30 → t ≠ 39 → ¬ (i = h ∨ x.ownBlock = some i) := fun i cs t hb h1 h2 hi => by
    obtain ⟨cs', t', hb', ht', _⟩ := hr.typ hi
    rcases ht' with rfl | rfl
    · exact Blk.ne hb hb' h1 rfl
    · exact Blk.ne hb hb' h2 rfl
  refine hn.mod hm (key _ _ _ hn.blk (by decide) (by decide)) (fun a ha => ?_) (fun d cs hb => key _ _ _ hb (by decide) (by decide))
  obtain ⟨xs, ho, _⟩ := hn.own
  obtain ⟨cur, hc⟩ := own_type ho ha
  exact key _ _ _ hc (by decide) (by decide)
theorem RefAt.aft {B g s h s2 : Nat} {w w' : World} {v x : Value} {L L2 : List Let} (hr : RefAt B w h x L2 s2) (hn : NetAt B w g v L s) (hm : Mod (fun b => b = g ∨ v.ownBlock = some b) w w') : RefAt B w' h x L2 s2 := by
  have key : ∀ i cs t, Blk w i cs t → t ≠ 52 → t ≠ 57 → ¬ (i = g ∨ v.ownBlock = some i) := fun i cs t hb h1 h2 hi => by
    obtain ⟨cs', t', hb', ht', _⟩ := hn.typ hi
    rcases ht' with rfl | rfl
    · exact Blk.ne hb hb' h1 rfl
    · exact Blk.ne hb hb' h2 rfl
  refine hr.mod hm (key _ _ _ hr.blk (by decide) (by decide)) (fun a ha => ?_)
  obtain ⟨cur, hc⟩ := own_type hr.own ha
  exact key _ _ _ hc (by decide) (by decide)
theorem By.aft {B s2 h base : Nat} {w w' : World} {x v : Value} {L2 : List Let} {b : List UInt8} (hb : By w base v b) (hr : RefAt B w h x L2 s2) (hm : Mod (fun b => b = h ∨ x.ownBlock = some b) w w') : By w' base v b :=
  own_mod hb hm (fun i hi hS => by
    obtain ⟨cs', t', hb', ht', _⟩ := hr.typ hS
    obtain ⟨cur, hc⟩ := own_type hb hi
    rcases ht' with rfl | rfl
    · exact Blk.ne hc hb' (by decide) rfl
    · exact Blk.ne hc hb' (by decide) rfl)

/-- What a step leaves of both. -/
def SideK (B : Nat) (w : World) (g h : Nat) (v x : Value) (w' : World) : Prop :=
  ∃ v' x' L' s', Side B w' g h v' x' L' s' ∧ (∀ i, foot g v' h x' i → foot g v h x i ∨ w.heap.size ≤ i) ∧ Mod (foot g v h x) w w'
theorem side_same {B g h s : Nat} {w w' : World} {v x : Value} {L : List Let} (hS : Side B w g h v x L s) (hm : Mod (fun _ => False) w w') : SideK B w g h v x w' :=
  ⟨v, x, L, s, ⟨hS.n.new hm (fun _ h => h.elim), hS.r.new hm (fun _ h => h.elim), hS.good⟩, fun i hi => .inl hi, hm.mono (fun _ h => h.elim)⟩
theorem side_nr {B g h s s' : Nat} {w W2 W3 W4 W5 : World} {v x : Value} {L L' : List Let} (hS : Side B w g h v x L s) (hn : Kept B g v L' s' w W2) (hm2 : Mod (fun _ => False) W2 W3) (hr : RKept B h x L' s' W3 W4) (hm3 : Mod (fun _ => False) W4 W5) (hG : Good L') : SideK B w g h v x W5 := by
  obtain ⟨v', h1, h2, h3⟩ := hn
  obtain ⟨x', r1, r2, r3⟩ := hr
  have n2 := h1 W2 (Mod.refl _ _)
  have n3 := n2.new hm2 (fun _ h => h.elim)
  have x3 := (hS.r.aft hS.n h3).new hm2 (fun _ h => h.elim)
  refine ⟨v', x', L', s', ⟨(n3.aft x3 r3).new hm3 (fun _ h => h.elim), r1.new hm3 (fun _ h => h.elim), hG⟩, fun i hi => ?_, ?_⟩
  · rcases hi with hi | hi | hi | hi
    · exact .inl (.inl hi)
    · rcases h2 i hi with h | h
      · exact .inl (.inr (.inl h))
      · exact .inr h
    · exact .inl (.inr (.inr (.inl hi)))
    · rcases r2 i hi with h | h
      · exact .inl (.inr (.inr (.inr h)))
      · exact .inr (by have := h3.size; have := hm2.size; omega)
  · refine (((h3.mono (T := foot g v h x) (fun i hi => ?_)).trans hm2 (fun _ h => h.elim)).trans (r3.mono (T := foot g v h x) (fun i hi => ?_)) (fun i hi => .inl hi)).trans hm3 (fun _ h => h.elim)
    · rcases hi with hi | hi
      · exact .inl hi
      · exact .inr (.inl hi)
    · rcases hi with hi | hi
      · exact .inr (.inr (.inl hi))
      · exact .inr (.inr (.inr hi))
theorem side_rn {B g h s s' : Nat} {w W2 W3 W4 W5 : World} {v x : Value} {L L' : List Let} (hS : Side B w g h v x L s) (hr : RKept B h x L' s' w W2) (hm2 : Mod (fun _ => False) W2 W3) (hn : Kept B g v L' s' W3 W4) (hm3 : Mod (fun _ => False) W4 W5) (hG : Good L') : SideK B w g h v x W5 := by
  obtain ⟨v', h1, h2, h3⟩ := hn
  obtain ⟨x', r1, r2, r3⟩ := hr
  have n3 := (hS.n.aft hS.r r3).new hm2 (fun _ h => h.elim)
  have x3 := r1.new hm2 (fun _ h => h.elim)
  refine ⟨v', x', L', s', ⟨(h1 W4 (Mod.refl _ _)).new hm3 (fun _ h => h.elim), (x3.aft n3 h3).new hm3 (fun _ h => h.elim), hG⟩, fun i hi => ?_, ?_⟩
  · rcases hi with hi | hi | hi | hi
    · exact .inl (.inl hi)
    · rcases h2 i hi with h | h
      · exact .inl (.inr (.inl h))
      · exact .inr (by have := r3.size; have := hm2.size; omega)
    · exact .inl (.inr (.inr (.inl hi)))
    · rcases r2 i hi with h | h
      · exact .inl (.inr (.inr (.inr h)))
      · exact .inr h
  · refine (((r3.mono (T := foot g v h x) (fun i hi => ?_)).trans hm2 (fun _ h => h.elim)).trans (h3.mono (T := foot g v h x) (fun i hi => ?_)) (fun i hi => .inl hi)).trans hm3 (fun _ h => h.elim)
    · rcases hi with hi | hi
      · exact .inr (.inr (.inl hi))
      · exact .inr (.inr (.inr hi))
    · rcases hi with hi | hi
      · exact .inl hi
      · exact .inr (.inl hi)

theorem Good.sent {L : List Let} {f t : Int} {b : List UInt8} (h : Good L) (hb : b.length ≤ 1000) : Good (sent L f t b) := by
  unfold Ytjhlabpnjkepbaa.sent
  split
  · next hc =>
    intro l hl
    rcases List.mem_append.1 hl with hl | hl
    · exact h l hl
    · simp at hl; subst hl; exact ⟨by show b.length ≤ _; omega, hc.1, hc.2.2.1, hc.2.1, hc.2.2.2.1⟩
  · exact h
theorem Good.taken {L : List Let} {s : Nat} {i : Int} (h : Good L) : Good (taken L s i) := by
  unfold Ytjhlabpnjkepbaa.taken
  split
  · intro l hl
    rcases List.mem_append.1 hl with hl | hl
    · exact h l (List.mem_of_mem_take hl)
    · exact h l (List.mem_of_mem_drop hl)
  · exact h
theorem Good.moved {L : List Let} {i j : Int} (h : Good L) : Good (moved L i j) := by
  unfold Ytjhlabpnjkepbaa.moved
  split
  · intro l hl
    have h1 : ∀ l ∈ L.take i.toNat ++ L.drop (i.toNat + 1), l ∈ L := fun l hl => by
      rcases List.mem_append.1 hl with hl | hl
      · exact List.mem_of_mem_take hl
      · exact List.mem_of_mem_drop hl
    unfold moved1 at hl
    rcases List.mem_append.1 hl with hl | hl
    · rcases List.mem_append.1 hl with hl | hl
      · exact h l (h1 l (List.mem_of_mem_take hl))
      · rcases hq : L[i.toNat]? with _ | z
        · rw [hq] at hl; simp at hl
        · rw [hq] at hl
          simp at hl
          subst hl
          exact h l (List.mem_of_getElem? hq)
    · exact h l (h1 l (List.mem_of_mem_drop hl))
  · exact h
theorem Good.copied {L : List Let} {i : Int} (h : Good L) : Good (copied L i) := by
  unfold Ytjhlabpnjkepbaa.copied
  split
  · intro l hl
    rcases List.mem_append.1 hl with hl | hl
    · exact h l hl
    · rcases hq : L[i.toNat]? with _ | z
      · rw [hq] at hl; simp at hl
      · rw [hq] at hl
        simp at hl
        subst hl
        exact h l (List.mem_of_getElem? hq)
  · exact h

/-- Take, told in one way. -/
def TookT (B g s : Nat) (v : Value) (L : List Let) (i : Int) (w : World) (e : Ending) (w' : World) : Prop :=
  ∃ v2, e = .returned (.tuple #[.int .i64 (tl L s i).f, .int .i64 (tl L s i).t, v2, .bool (takeOk L s i)]) ∧ By w' w.heap.size v2 (tl L s i).b ∧ Kept B g v (taken L s i) s w w'
theorem took_t {B g s : Nat} {v : Value} {L : List Let} {i : Int} {w w' : World} {e : Ending} (ht : Took B g s v L i w e w') : TookT B g s v L i w e w' := by
  rcases ht with ⟨v2, hk, hok, he, hby, hkp⟩ | ⟨hok, he, hkp⟩
  · have hhas := takeOk_has hok
    have hrl : rl L i = L[i.toNat] := by unfold rl; rw [if_pos hhas]; simp [hk]
    have htl : tl L s i = L[i.toNat] := by unfold tl; rw [if_pos hok, hrl]
    have htd : taken L s i = L.take i.toNat ++ L.drop (i.toNat + 1) := by unfold taken; rw [if_pos hok]
    rw [← htd] at hkp
    refine ⟨v2, ?_, ?_, hkp⟩
    · rw [htl, hok]; exact he
    · rw [htl]; exact hby
  · have htl : tl L s i = ⟨0, 0, []⟩ := by unfold tl; rw [hok]; rfl
    have htd : taken L s i = L := by unfold taken; rw [hok]; rfl
    refine ⟨.slice none 0 0, ?_, ?_, ?_⟩
    · rw [htl, hok]; exact he
    · rw [htl]; exact World.ownsRow_nil _ _ _ _
    · rw [htd]; exact hkp
/-- Look, told in one way. -/
def LookedT (L : List Let) (i : Int) (w : World) (e : Ending) (w' : World) : Prop :=
  ∃ v2, e = .returned (.tuple #[.int .i64 (rl L i).f, .int .i64 (rl L i).t, v2, .bool (hasOk L i)]) ∧ By w' w.heap.size v2 (rl L i).b ∧ Mod (fun _ => False) w w'
theorem looked_t {L : List Let} {i : Int} {w w' : World} {e : Ending} (h : Looked L i w e w') : LookedT L i w e w' := by
  obtain ⟨hm2, hk⟩ := h
  rcases hk with ⟨v2, hk, h0, he, hby⟩ | ⟨hno, he, rfl⟩
  · have hhas : hasOk L i = true := by unfold hasOk; rw [decide_eq_true]; omega
    have hrl : rl L i = L[i.toNat] := by unfold rl; rw [if_pos hhas]; simp [hk]
    refine ⟨v2, ?_, ?_, hm2⟩
    · rw [hrl, hhas]; exact he
    · rw [hrl]; exact hby
  · have hhas : hasOk L i = false := by unfold hasOk; rw [decide_eq_false hno]
    have hrl : rl L i = ⟨0, 0, []⟩ := by unfold rl; rw [hhas]; rfl
    refine ⟨.slice none 0 0, ?_, ?_, hm2⟩
    · rw [hrl, hhas]; exact he
    · rw [hrl]; exact World.ownsRow_nil _ _ _ _

/-- Bytes that came in, below block B. -/
def Old (B : Nat) (w : World) (v : Value) (b : List UInt8) : Prop := (v = .slice none 0 0 ∧ b = []) ∨ ∃ ad c, v = .slice (some ad) b.length c ∧ b.length ≤ c ∧ c ≤ maxLen ∧ ∀ j u, (bts b)[j]? = some u → w.cell? (ad.add j) = some u ∧ ad.block < B
theorem add_block (a : Addr) (j : Nat) : (a.add j).block = a.block := by unfold Addr.add; split <;> rfl
theorem Old.mod {S : Nat → Prop} {B : Nat} {w w' : World} {v : Value} {b : List UInt8} (h : Old B w v b) (hm : Mod S w w') (hS : ∀ i, S i → B ≤ i) : Old B w' v b := by
  rcases h with h | ⟨ad, c, rfl, h1, h2, hc⟩
  · exact .inl h
  · refine .inr ⟨ad, c, rfl, h1, h2, fun j u hu => ?_⟩
    obtain ⟨h3, h4⟩ := hc j u hu
    exact ⟨cell_mod hm h3 (fun hs => by have := hS _ hs; rw [add_block] at this; omega), h4⟩
theorem Old.rd {B : Nat} {w : World} {v : Value} {b : List UInt8} (h : Old B w v b) : Rd w v b := by
  rcases h with h | ⟨ad, c, rfl, h1, h2, hc⟩
  · exact .inl h
  · exact .inr ⟨ad, c, rfl, fun j u hu => (hc j u hu).1⟩
theorem Old.form {B : Nat} {w : World} {v : Value} {b : List UInt8} (h : Old B w v b) : ∃ A c, v = .slice A b.length c ∧ b.length ≤ c ∧ c ≤ maxLen := by
  rcases h with ⟨rfl, rfl⟩ | ⟨ad, c, rfl, h1, h2, hc⟩
  · exact ⟨none, 0, rfl, Nat.le_refl _, Nat.zero_le _⟩
  · exact ⟨_, c, rfl, h1, h2⟩
theorem Old.cut {B c n : Nat} {w : World} {A : Option Addr} {b : List UInt8} (h : Old B w (.slice A b.length c) b) (hn : n ≤ b.length) (h0 : 0 < n := by decide) : Old B w (.slice A n c) (b.take n) := by
  rcases h with ⟨h, rfl⟩ | ⟨ad, c', hv, h1, h2, hc⟩
  · simp at hn; omega
  · injection hv with e1 e2 e3
    subst e1 e3
    refine .inr ⟨ad, c, by rw [List.length_take, Nat.min_eq_left hn], by rw [List.length_take]; omega, h2, fun j u hu => hc j u ?_⟩
    have hj : j < n := by have := (List.getElem?_eq_some_iff.1 hu).1; rw [bts_len, List.length_take] at this; omega
    simp only [bts, List.map_take] at hu ⊢
    rw [List.getElem?_take_of_lt hj] at hu
    exact hu
theorem el5 : El Try.prog 32 5 1 1 := El.mk_ (z := .int .u8 0) Try.underlying32 (by kernel_rfl) rfl (by decide)
/-- append([]byte{}, b...). -/
theorem lend_run {B : Nat} {w : World} {v : Value} {b : List UInt8} (h : Old B w v b) (hb : b.length ≤ 1000) (hB : B ≤ w.heap.size) :
    ∃ gl k w', (Builtin.append_ #[32, 32] 32 #[.slice (some ⟨w.heap.size, 0, none⟩) 0 0, v]).run Try.prog (w.alloc (.cells #[] 5)) = .ok (.slice (some ⟨gl, 0, none⟩) b.length k) w' ∧ By w' w.heap.size (.slice (some ⟨gl, 0, none⟩) b.length k) b ∧ Mod (fun _ => False) w w' := by
  have hal : Mod (fun _ => False) w (w.alloc (.cells #[] 5)) := (Mod.refl _ _).alloc _
  have hown : (w.alloc (.cells #[] 5)).ownsRow w.heap.size 5 1 (.slice (some ⟨w.heap.size, 0, none⟩) 0 0) 0 [] := own_of (Blk.new w #[] 5) (Nat.le_refl _) (Nat.le_refl _) (Nat.zero_le _) rfl rfl
  rcases (h.mod hal (fun _ h => h.elim)) with ⟨rfl, rfl⟩ | ⟨ad, c, rfl, h1, h2, hc⟩
  · exact ⟨_, _, _, el5.app_none _ _ _ _ _ hown, hown, hal⟩
  · obtain ⟨A, k, w', hr, ho, hm, hv, hs⟩ := el5.app w.heap.size 0 _ _ _ hown ad b.length c (bts b) (by unfold maxLen; omega) (by omega) (by rw [bts_len, Nat.mul_one]) (fun j u hu => (hc j u hu).1) (bts_one b) hal.size
    obtain ⟨gl, rfl⟩ := hs (.inl (by simp))
    rw [Nat.zero_add] at hr ho
    exact ⟨gl, k, w', hr, ho, hal.trans hm (fun i hi => .inr (own_lt hown hi).1)⟩

theorem SideK.from_ {B g h : Nat} {w w1 w2 : World} {v x : Value} (hm : Mod (fun _ => False) w w1) (hk : SideK B w1 g h v x w2) : SideK B w g h v x w2 := by
  obtain ⟨v', x', L', s', h1, h2, h3⟩ := hk
  refine ⟨v', x', L', s', h1, fun i hi => ?_, (hm.mono (fun _ h => h.elim)).trans h3 (fun i hi => .inl hi)⟩
  rcases h2 i hi with h | h
  · exact .inl h
  · exact .inr (by have := hm.size; omega)
theorem Side.new {B g h s : Nat} {w w' : World} {v x : Value} {L : List Let} (hS : Side B w g h v x L s) (hm : Mod (fun _ => False) w w') : Side B w' g h v x L s :=
  ⟨hS.n.new hm (fun _ h => h.elim), hS.r.new hm (fun _ h => h.elim), hS.good⟩
/-- What was lent is written to. -/
theorem kept_lent {B g s gl : Nat} {v : Value} {L' : List Let} {w0 w1 w2 wr : World} (hk : KeptR (fun i => w0.heap.size ≤ i ∧ i < w1.heap.size) B g v L' s w1 w2) (hm0 : Mod (fun _ => False) w0 w1) (hm : Mod (fun i => i = gl) w2 wr) (h1 : w0.heap.size ≤ gl) (h2 : gl < w1.heap.size) : Kept B g v L' s w0 wr := by
  obtain ⟨v', k1, k2, k3⟩ := hk
  have hs := hm0.size
  refine ⟨v', fun w'' hm'' => k1 w'' ((hm.mono (fun i hi => by subst hi; exact ⟨h1, h2⟩)).trans hm'' (fun _ h => h.elim)), fun a ha => ?_, ?_⟩
  · rcases k2 a ha with h | h
    · exact .inl h
    · exact .inr (by omega)
  · exact ((hm0.mono (fun _ h => h.elim)).trans k3 (fun i hi => .inl hi)).trans hm (fun i hi => .inr (by omega))
/-- Where the lent bytes stand. -/
def LentK (gl n : Nat) (w2 wr : World) : Prop := Mod (fun i => i = gl) w2 wr ∧ ∃ cur, Blk wr gl cur 5 ∧ n ≤ cur.size
theorem LentK.start {B g s base gl k : Nat} {R : Nat → Prop} {v : Value} {L L' : List Let} {w0 w1 w2 : World} {b : List UInt8} (hn : NetAt B w1 g v L s) (hk : KeptR R B g v L' s w1 w2) (hby : By w1 base (.slice (some ⟨gl, 0, none⟩) b.length k) b) : LentK gl b.length w2 w2 := by
  refine ⟨Mod.refl _ _, ?_⟩
  rcases own_cases hby with ⟨h, _⟩ | ⟨g', cap', cur', hv, hb, hB', hn', hc', hs', hx'⟩
  · cases h
  · injection hv with e1 e2 e3
    injection e1 with e1
    injection e1 with e1
    subst e1 e3
    exact ⟨cur', (KeptR.fr hn hk).2 _ _ _ hB' (by decide) (by decide), by omega⟩
theorem blk_n {B g s q : Nat} {v : Value} {L : List Let} {w w' : World} {cs : Array Value} (hn : NetAt B w g v L s) (hq : Blk w q cs 34) (hm : Mod (fun b => b = g ∨ v.ownBlock = some b) w w') : Blk w' q cs 34 :=
  hq.mod hm (fun hi => by
    obtain ⟨cs', t', hb', ht', _⟩ := hn.typ hi
    rcases ht' with rfl | rfl
    · exact Blk.ne hq hb' (by decide) rfl
    · exact Blk.ne hq hb' (by decide) rfl)
theorem blk_r {B g s q : Nat} {v : Value} {L : List Let} {w w' : World} {cs : Array Value} (hn : RefAt B w g v L s) (hq : Blk w q cs 34) (hm : Mod (fun b => b = g ∨ v.ownBlock = some b) w w') : Blk w' q cs 34 :=
  hq.mod hm (fun hi => by
    obtain ⟨cs', t', hb', ht', _⟩ := hn.typ hi
    rcases ht' with rfl | rfl
    · exact Blk.ne hq hb' (by decide) rfl
    · exact Blk.ne hq hb' (by decide) rfl)
theorem Old.n {B g s : Nat} {v d : Value} {L : List Let} {w w' : World} {b : List UInt8} (hd : Old B w d b) (hn : NetAt B w g v L s) (hm : Mod (fun b => b = g ∨ v.ownBlock = some b) w w') : Old B w' d b :=
  hd.mod hm (fun i hi => (hn.typ hi).choose_spec.choose_spec.2.2)
theorem Kept.mod {B g s : Nat} {v : Value} {L : List Let} {w w' : World} (h : Kept B g v L s w w') : Mod (fun b => b = g ∨ v.ownBlock = some b) w w' := by
  obtain ⟨_, _, _, h⟩ := h; exact h
theorem RKept.mod_ {B g s : Nat} {v : Value} {L : List Let} {w w' : World} (h : RKept B g v L s w w') : Mod (fun b => b = g ∨ v.ownBlock = some b) w w' := by
  obtain ⟨_, _, _, h⟩ := h; exact h
theorem ref_split {B h s sd : Nat} {x : Value} {L : List Let} {w : World} (hr : RefAt B w h x L s) (hs : sd < 18446744073709551616) : RKept B h x L sd w (w.setCell ⟨h, 1, none⟩ (.int .u64 sd)) := by
  have hm : Mod (fun b => b = h) w (w.setCell ⟨h, 1, none⟩ (.int .u64 sd)) := (Mod.refl (fun b => b = h) w).setCell (p := ⟨h, 1, none⟩) (.inl rfl) _
  refine ⟨x, ⟨hr.blk.set 1 _, own_mod hr.own hm (fun a ha => ?_), hr.base, hs, hr.few⟩, fun a ha => .inl ha, hm.mono (fun i hi => .inl hi)⟩
  obtain ⟨cur, hc⟩ := own_type hr.own ha
  exact Blk.ne hc hr.blk (by decide)
theorem net_split {B g sd : Nat} {v : Value} {L : List Let} {w w' : World} (hn : NetAt B w' g v L sd) (hm : Mod (· = g) w w') : Kept B g v L sd w w' :=
  ⟨v, fun w'' hm'' => hn.new hm'' (fun _ h => h.elim), fun a ha => .inl ha, hm.mono (fun i hi => .inl hi)⟩
theorem LentK.at_ {gl n : Nat} {w2 wr : World} (h : LentK gl n w2 wr) (j : Nat) (hj : j < n) (u : Value) : (∃ y, wr.cell? ⟨gl, j, none⟩ = some y) ∧ wr.frozen? ⟨gl, j, none⟩ = false ∧ LentK gl n w2 (wr.setCell ⟨gl, j, none⟩ u) := by
  obtain ⟨hm, cur, hb, hn⟩ := h
  refine ⟨⟨cur[j]'(by omega), ?_⟩, hb.frozen j, hm.setCell (p := ⟨gl, j, none⟩) (.inl rfl) u, _, hb.set j u, by simpa using hn⟩
  rw [hb.cell, Array.getElem?_eq_getElem (by omega)]
end Go.Proofs.Ytjhlabpnjkepbaa
