/-
  Bytes that came in; a copy of them.
-/
import Derived.Test.YtokojeiiobhciaaGreatDoorBw
import Derived.Test.YtokojeiiobhciaaGreatDoorCat
import Derived.Test.YtokojeiiobhciaaGreatDoorArgs
namespace Go.Proofs.YtokojeiiobhciaaGreatDoor
open Go.RowKit Mem
set_option linter.unusedVariables false
set_option linter.unusedSimpArgs false

def Rd (w : World) (v : Value) (l : Bs) : Prop := (v = .slice none 0 0 ∧ l = []) ∨ ∃ x c, v = .slice (some x) l.length c ∧ ∀ (j : Nat) u, (bts l)[j]? = some u → w.cell? (x.add j) = some u
def RdC (w : World) (v : Value) (l : Bs) : Prop := Rd w v l ∧ ∃ A c, v = .slice A l.length c ∧ l.length ≤ c ∧ c ≤ maxLen
theorem Rd.mod {w w' : World} {v : Value} {l : Bs} (h : Rd w v l) (hm : Mod (fun _ => False) w w') : Rd w' v l := by
  rcases h with h | ⟨x, c, hv, hc⟩
  · exact .inl h
  · exact .inr ⟨x, c, hv, fun j u hj => cell_keep hm (hc j u hj) (fun h => h)⟩
theorem Rd.text {w : World} {v : Value} {l : Bs} (h : Rd w v l) : (convert 22 9 v).run Tryz.prog w = .ok (.string (sv l)) w := by
  rcases h with ⟨rfl, rfl⟩ | ⟨x, c, rfl, hc⟩
  · exact nil_text w
  · exact conv_text x c l hc
theorem RdC.len {w : World} {a : Option Addr} {n c : Nat} {l : Bs} (h : RdC w (.slice a n c) l) : l.length = n := by
  obtain ⟨_, A, c', hv, _⟩ := h
  injection hv with _ e _
  exact e.symm
theorem el5 : El Tryz.prog 22 5 1 1 := El.mk_ (z := .int .u8 0) Tryz.underlying22 (by kernel_rfl) rfl (by decide)
theorem rd_own {w : World} {base : Nat} {v : Value} {l : Bs} (h : w.ownsRow base 5 1 v l.length (bts l)) : Rd w v l := by
  rcases own_cases h with ⟨hv, hn, hx⟩ | ⟨g, cap, cur, hv, hg, hB, hn, hc, hs, hx⟩
  · have : l = [] := List.eq_nil_of_length_eq_zero hn
    subst this
    exact .inl ⟨hv, rfl⟩
  · refine .inr ⟨⟨g, 0, none⟩, cap, hv, fun j u hj => ?_⟩
    rw [Addr.add_lit, Nat.zero_add, hB.cell]
    have hj2 : j < l.length := by have := (List.getElem?_eq_some_iff.1 hj).1; rwa [bts_len] at this
    rw [← hx, List.getElem?_take_of_lt (by omega)] at hj
    simpa using hj
/-- append([]byte{}, b...). -/
theorem copy_any (w : World) (v : Value) (l : Bs) (h : Rd w v l) (hl : l.length ≤ 1048576) :
    ∃ A c w', (Builtin.append_ #[22, 22] 22 #[.slice (some ⟨w.heap.size, 0, none⟩) 0 0, v]).run Tryz.prog (w.alloc (.cells #[] 5)) = .ok (.slice A l.length c) w' ∧ Rd w' (.slice A l.length c) l ∧ Mod (fun _ => False) w w' := by
  have hal : Mod (fun _ => False) w (w.alloc (.cells #[] 5)) := (Mod.refl _ w).alloc _
  have hown0 : (w.alloc (.cells #[] 5)).ownsRow w.heap.size 5 1 (.slice (some ⟨w.heap.size, 0, none⟩) 0 0) 0 [] :=
    own_of (Blk.new w #[] 5) (Nat.le_refl _) (Nat.le_refl _) (Nat.zero_le _) (by simp) (by simp)
  have hR := h.mod hal
  rcases hR with ⟨rfl, rfl⟩ | ⟨x, c, rfl, hc⟩
  · refine ⟨_, _, _, el5.app_none w.heap.size 0 _ [] _ hown0, ?_, hal⟩
    exact rd_own hown0
  · obtain ⟨A1, k1, w1, hr1, ho1, hm1, hv1, hs1⟩ := el5.app w.heap.size 0 _ [] _ hown0 x l.length c (bts l) (by unfold maxLen; omega) (by omega) (by rw [bts_len, Nat.mul_one]) hc (fun u hu => by
      simp only [bts, List.mem_map] at hu
      obtain ⟨z, _, rfl⟩ := hu
      rfl) hal.size
    rw [Nat.zero_add] at hr1 ho1
    refine ⟨A1, k1, w1, hr1, rd_own ho1, hal.trans (T := fun b => b = w.heap.size) (hm1.mono (fun b hb => by simpa [Value.ownBlock, eq_comm] using hb)) (fun i hi => .inr (by omega))⟩
end Go.Proofs.YtokojeiiobhciaaGreatDoor
