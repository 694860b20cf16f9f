/-
  Bytes that Encode puts together, step by step: what is kept (ES), and a row of one number that waits (Pend).
-/
import Derived.Test.YtknaaaphdjdaoaaDoorEc
import Derived.Test.YtknaaaphdjdaoaaDoorRn
namespace Go.Proofs.YtknaaaphdjdaoaaDoor
open Go.RowKit Mem
set_option linter.unusedVariables false
set_option linter.unusedSimpArgs false

theorem Rd.src {w : World} {v : Value} {l : Bs} (h : Rd w v l) : Src Tryd.prog 1 24 v l.length (bts l) w := by
  rcases h with ⟨rfl, rfl⟩ | ⟨x, c, rfl, hc⟩
  · exact Src.ofNil w Tryd.underlying24 0
  · exact Src.ofSlice w Tryd.underlying24 x l.length c (bts l) (by rw [bts_len, Nat.mul_one]) hc (fun u hu => by
      simp only [bts, List.mem_map] at hu
      obtain ⟨z, _, rfl⟩ := hu
      rfl)
theorem ob_base {w0 w : World} {v : Value} {l : Bs} {g : Nat} (h : Ob w0 w v l) (e : v.ownBlock = some g) : w0.heap.size ≤ g := by
  rcases h with ⟨rfl, _⟩ | ⟨g', hg, cap, cur, rfl, hB', _⟩
  · simp [Value.ownBlock] at e
  · have e2 : g' = g := by simpa [Value.ownBlock] using e
    omega
theorem ob_lt {w0 w : World} {v : Value} {l : Bs} {g : Nat} (h : Ob w0 w v l) (e : v.ownBlock = some g) : g < w.heap.size := by
  rcases h with ⟨rfl, _⟩ | ⟨g', hg, cap, cur, rfl, hB', _⟩
  · simp [Value.ownBlock] at e
  · have e2 : g' = g := by simpa [Value.ownBlock] using e
    rw [← e2]
    exact hB'.lt
theorem ri_old {w : World} {a : Addr} {n c : Nat} {zs : List Int} (h : RI w (.slice (some a) n c) zs) (hne : zs ≠ []) : a.block < w.heap.size := by
  rcases h with ⟨h, _⟩ | ⟨a', c', h, _, _, hc⟩
  · cases h
  · injection h with h1
    injection h1 with h1
    subst h1
    cases zs with
    | nil => exact absurd rfl hne
    | cons z r =>
      have := World.block_lt_of_cell? _ _ (hc 0 z rfl)
      rwa [add_blk] at this
/-- What stands: bytes l at v, of the call's own, out of w5's v5. -/
def ES (w w5 : World) (v5 : Value) (W : World) (v : Value) (l : Bs) : Prop := Ob w W v l ∧ Mod (fun _ => False) w W ∧ Nx w5 v5 W v
theorem ES.alloc {w w5 W : World} {v5 v : Value} {l : Bs} (h : ES w w5 v5 W v l) (o : Obj) : ES w w5 v5 (W.alloc o) v l :=
  ⟨h.1.mod ((Mod.refl _ W).alloc o), h.2.1.alloc o, h.2.2.1.alloc o, fun b hb => h.2.2.2 b hb⟩
theorem ES.drew {w w5 W : World} {v5 v : Value} {l : Bs} (h : ES w w5 v5 W v l) : ES w w5 v5 W.drew v l :=
  ⟨h.1.mod (Mod.refl _ W).drew, h.2.1.drew, h.2.2.1.drew, fun b hb => h.2.2.2 b hb⟩
theorem ES.refl {w w5 : World} {v5 : Value} {l : Bs} (h : Ob w w5 v5 l) (hm : Mod (fun _ => False) w w5) : ES w w5 v5 w5 v5 l := ⟨h, hm, Nx.refl _ _⟩
/-- A row of one number that waits, beside v. -/
def Pend (w : World) (v : Value) (g : Nat) (z : Int) : Prop := RI w (.slice (some ⟨g, 0, none⟩) 1 1) [z] ∧ ¬ v.ownBlock = some g ∧ g < w.heap.size
theorem Pend.new {w w5 W : World} {v5 v : Value} {l : Bs} (h : ES w w5 v5 W v l) (z : Int) : Pend (W.alloc (.cells #[.int .i64 z] 3)) v W.heap.size z :=
  ⟨ri_new W [z] #[.int .i64 z] 1 rfl (fun j z hj => by
    rcases j with _ | j <;> simp at hj ⊢ <;> exact hj) (by unfold maxLen; omega), fun e => by have := ob_lt h.1 e; omega, by simp⟩
theorem Pend.alloc {w : World} {v : Value} {g : Nat} {z : Int} (h : Pend w v g z) (o : Obj) : Pend (w.alloc o) v g z :=
  ⟨h.1.mod ((Mod.refl _ w).alloc o), h.2.1, by have := h.2.2; simp; omega⟩
theorem Pend.step {w w' : World} {v v' : Value} {g : Nat} {z : Int} (h : Pend w v g z) (hx : Nx w v w' v') : Pend w' v' g z :=
  ⟨h.1.keep hx.1 (fun a n c e hb => by injection e with e1; injection e1 with e1; subst e1; exact h.2.1 hb), fun e => (hx.2 g e).elim h.2.1 (fun h1 => by have := h.2.2; omega), Nat.lt_of_lt_of_le h.2.2 hx.1.size⟩
/-- numbers, of a row of one that waits. -/
theorem one_any {w w5 W : World} {v5 v : Value} {l : Bs} {g g' : Nat} {z : Int} (hz : 0 ≤ z ∧ z ≤ 9223372036854775807) (hl : l.length ≤ 4000000) (h : ES w w5 v5 W v l) (hp : Pend W v g z) (hg : g' = g) :
    Calls Tryd.prog 25 #[v, .slice (some ⟨g', 0, none⟩) 1 1] W fun e w' => ∃ v', e = .returned v' ∧ ES w w5 v5 w' v' (l ++ pnz [z]) ∧ Nx W v w' v' :=
  hg ▸ (numbers_any w v _ l [z] (fun y hy => by
    have : y = z := by simpa using hy
    subst this; exact hz) (by simp; omega) W h.1 h.2.1 hp.1 (fun a n c e hb => by injection e with e1; injection e1 with e1; subst e1; exact hp.2.1 hb)).mono fun e w' ⟨v', he, h1, h2, h3⟩ => ⟨v', he, ⟨h1, h2, h.2.2.trans h3⟩, h3⟩
/-- numbers, of a row of whatever that came in. -/
theorem row_any {w w5 W : World} {v5 v x : Value} {l : Bs} {zs : List Int} (hz : ∀ z ∈ zs, 0 ≤ z ∧ z ≤ 9223372036854775807) (hl : l.length + 11 * zs.length ≤ 4194304) (h : ES w w5 v5 W v l) (hx : RI w x zs) (hne : zs ≠ []) :
    Calls Tryd.prog 25 #[v, x] W fun e w' => ∃ v', e = .returned v' ∧ ES w w5 v5 w' v' (l ++ pnz zs) ∧ Nx W v w' v' :=
  (numbers_any w v x l zs hz hl W h.1 h.2.1 (hx.mod h.2.1) (fun a n c e hb => by
    subst e
    have := ri_old hx hne
    have := ob_base h.1 hb
    omega)).mono fun e w' ⟨v', he, h1, h2, h3⟩ => ⟨v', he, ⟨h1, h2, h.2.2.trans h3⟩, h3⟩
/-- append of bytes that came in. -/
theorem ES.app {w w5 W : World} {v5 v x : Value} {l m : Bs} (h : ES w w5 v5 W v l) (hx : Rd w x m) (hl : l.length + m.length ≤ 140737488355328) :
    ∃ v' w', (Builtin.append_ #[24, 24] 24 #[v, x]).run Tryd.prog W = .ok v' w' ∧ ES w w5 v5 w' v' (l ++ m) ∧ Nx W v w' v' := by
  obtain ⟨a, c, w', h1, h2, h3, h4⟩ := h.1.appU (tx := 24) (m := m) h.2.1 hl (hx.mod h.2.1).src
  exact ⟨_, w', h1, ⟨h2, h3, h.2.2.trans h4⟩, h4⟩
/-- numbers, of a row just made (its block as the walk spells it). -/
theorem put_at (w0 : World) (v : Value) (l : Bs) (zs : List Int) (cs : Array Value) (n : Nat) (hn : zs.length = n) (hcs : ∀ (j : Nat) z, zs[j]? = some z → cs[j]? = some (.int .i64 z)) (hz : ∀ z ∈ zs, 0 ≤ z ∧ z ≤ 9223372036854775807) (hl : l.length + 11 * zs.length ≤ 4194304) (w : World) (hO : Ob w0 w v l) (hm : Mod (fun _ => False) w0 w) {g : Nat} (hg : g = w.heap.size) :
    Calls Tryd.prog 25 #[v, .slice (some ⟨g, 0, none⟩) n n] (w.alloc (.cells cs 3)) fun e w' => ∃ v', e = .returned v' ∧ Ob w0 w' v' (l ++ pnz zs) ∧ Mod (fun _ => False) w0 w' ∧ Nx w v w' v' := by
  subst hg
  exact put_any w0 v l zs cs n hn hcs hz hl w hO hm
end Go.Proofs.YtknaaaphdjdaoaaDoor
