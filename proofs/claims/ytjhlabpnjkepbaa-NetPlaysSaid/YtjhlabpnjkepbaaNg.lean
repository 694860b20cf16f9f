/-
  Move.
-/
import Derived.Test.YtjhlabpnjkepbaaNf
namespace Go.Proofs.Ytjhlabpnjkepbaa
open Go.RowKit Mem
set_option linter.unusedVariables false

def moveOk (L : List Let) (i j : Int) : Bool := decide (0 ≤ i ∧ i < L.length ∧ 0 ≤ j ∧ j < L.length)
def moved1 (L : List Let) (i j : Nat) : List Let := (L.take i ++ L.drop (i + 1)).take j ++ L[i]?.toList ++ (L.take i ++ L.drop (i + 1)).drop j
def moved (L : List Let) (i j : Int) : List Let := if moveOk L i j then moved1 L i.toNat j.toNat else L

theorem moved1_len (L : List Let) (i j : Nat) (hi : i < L.length) : (moved1 L i j).length = L.length := by
  unfold moved1
  have := cut_len L i hi
  rw [List.length_append, List.length_append, List.length_take, List.length_drop, this, List.getElem?_eq_getElem hi]
  simp
  omega

theorem delete_m (a i m cap : Nat) (cur : Array Value) (xs : List Value) (w : World) (hB : Blk w a cur 57) (hs : cur.size = cap * 3) (hx : cur.toList.take ((m + 1) * 3) = xs) (hin : i < m + 1) (hn : m + 1 ≤ cap) (hc : cap ≤ maxLen) (h1 : ∀ u ∈ xs, u.oneCell' = true) :
    Calls Try.prog 26 #[.slice (some ⟨a, 0, none⟩) (m + 1) cap, .int .i64 i, .int .i64 ((i : Int) + 1)] w fun e w' => e = .returned (.slice (some ⟨a, 0, none⟩) m cap) ∧ Deleted a i (m + 1) cap xs w e w' :=
  (delete_any a i (m + 1) cap cur xs w hB hs hx hin hn hc h1).mono fun e w' hd => ⟨hd.1, hd⟩
theorem insert_any (a i n cap vb : Nat) (cur ysA : Array Value) (xs : List Value) (w : World) (hB : Blk w a cur 57) (hs : cur.size = cap * 3) (hx : cur.toList.take (n * 3) = xs) (hin : i ≤ n) (hn : n < cap) (hc : cap ≤ maxLen) (h1 : ∀ u ∈ xs, u.oneCell' = true)
    (hV : Blk w vb ysA 57) (hvs : ysA.size = 3) (h2 : ∀ u ∈ ysA.toList, u.oneCell' = true) (hva : vb ≠ a) :
    Calls Try.prog 25 #[.slice (some ⟨a, 0, none⟩) n cap, .int .i64 i, .slice (some ⟨vb, 0, none⟩) 1 1] w fun e w' => e = .returned (.slice (some ⟨a, 0, none⟩) (n + 1) cap) ∧ Inserted a i n cap xs ysA.toList w e w' := by
  rcases Nat.lt_or_ge i n with h | h
  · exact (insert_mid a i n cap vb cur ysA xs w hB hs hx h hn hc h1 hV hvs h2 hva).mono fun e w' hd => ⟨hd.1, hd⟩
  · have : i = n := by omega
    subst this
    exact (insert_end a i cap vb cur ysA xs w hB hs hx hn hc hV hvs h2).mono fun e w' hd => ⟨hd.1, hd⟩

/-- The row as Delete leaves it is ready for Insert. -/
theorem ins_after (B g s a i j m cap : Nat) (L : List Let) (xs : List Value) (w w1 w2 w3 : World) (e : Ending) (h : NetAt B w g (.slice (some ⟨a, 0, none⟩) (m + 1) cap) L s) (hn : m + 1 = L.length) (hcap : m + 1 ≤ cap) (hmax : cap ≤ maxLen) (cur : Array Value) (hA : Blk w a cur 57) (hl : Lets w L xs) (hi : i < m + 1) (hj : j < m + 1)
    (hm1 : Mod (fun _ => False) w w1) (hd : Deleted a i (m + 1) cap xs w1 e w2) (hm3 : Mod (fun _ => False) w2 w3) (vb : Nat) (f t : Int) (A : Option Addr) (k c : Nat) (hvb : w.heap.size ≤ vb) (hV : Blk w3 vb #[.int .i64 f, .int .i64 t, .slice A k c] 57) :
    Calls Try.prog 25 #[.slice (some ⟨a, 0, none⟩) m cap, .int .i64 (j : Int), .slice (some ⟨vb, 0, none⟩) 1 1] w3 fun e w' => e = .returned (.slice (some ⟨a, 0, none⟩) (m + 1) cap) ∧ Inserted a j m cap (xs.take (i * 3) ++ xs.drop ((i + 1) * 3)) [.int .i64 f, .int .i64 t, .slice A k c] w3 e w' := by
  obtain ⟨_, hm, hsz, cur', hA', hs', hx'⟩ := hd
  refine insert_any a j m cap vb cur' #[.int .i64 f, .int .i64 t, .slice A k c] _ w3 (hA'.mod hm3 (fun h => h)) hs' hx' (by omega) (by omega) hmax ?_ hV rfl ?_ ?_
  · intro u hu
    rcases List.mem_append.1 hu with hu | hu
    · exact hl.one u (List.mem_of_mem_take hu)
    · exact hl.one u (List.mem_of_mem_drop hu)
  · intro u hu
    simp only [List.mem_cons, List.not_mem_nil, or_false] at hu
    rcases hu with rfl | rfl | rfl <;> rfl
  · have := hA.lt; omega

/-- And what is laid back in the end. -/
theorem move_put (B g s a i j m cap : Nat) (L : List Let) (l : Let) (xs : List Value) (bv : Value) (w w1 w2 w3 w4 : World) (e e' : Ending) (h : NetAt B w g (.slice (some ⟨a, 0, none⟩) (m + 1) cap) L s) (hn : m + 1 = L.length) (hcap : m + 1 ≤ cap) (hmax : cap ≤ maxLen) (hBa : B ≤ a) (cur : Array Value) (hA : Blk w a cur 57) (hl : Lets w L xs) (hi : i < m + 1) (hj : j < m + 1)
    (hli : L[i]? = some l) (hby : By w 0 bv l.b)
    (hm1 : Mod (fun _ => False) w w1) (hd : Deleted a i (m + 1) cap xs w1 e w2) (hm3 : Mod (fun _ => False) w2 w3) (hins : Inserted a j m cap (xs.take (i * 3) ++ xs.drop ((i + 1) * 3)) [.int .i64 l.f, .int .i64 l.t, bv] w3 e' w4) :
    w4.cell? ⟨g, 0, none⟩ = some (.slice (some ⟨a, 0, none⟩) (m + 1) cap) ∧ w4.frozen? ⟨g, 0, none⟩ = false ∧
    Kept B g (.slice (some ⟨a, 0, none⟩) (m + 1) cap) (moved1 L i j) s w (w4.setCell ⟨g, 0, none⟩ (.slice (some ⟨a, 0, none⟩) (m + 1) cap)) := by
  obtain ⟨_, hmd, hszd, cur', hA', hs', hx'⟩ := hd
  obtain ⟨_, hmi, hszi, cur'', hA'', hs'', hx''⟩ := hins
  have hga : ¬ g = a := Blk.ne h.blk hA (by decide)
  have hm4 : Mod (· = a) w w4 := (((hm1.mono (fun _ h => h.elim)).trans hmd (fun b hb => .inl hb)).trans hm3 (fun _ h => h.elim)).trans hmi (fun b hb => .inl hb)
  have hb4 := h.blk.mod hm4 hga
  have hml := moved1_len L i j (by omega)
  have ho4 : w4.ownsRow B 57 3 (.slice (some ⟨a, 0, none⟩) (m + 1) cap) (m + 1) _ := own_of hA'' hBa hcap hmax hs'' hx''
  refine ⟨hb4.cell 0, hb4.frozen 0, put_net (v := .slice (some ⟨a, 0, none⟩) (m + 1) cap) h.blk.lt (hm4.mono (fun b hb => .inr (by simp [Value.ownBlock, hb]))) hb4 (L1 := moved1 L i j) (by rw [hml, ← hn]; exact ho4) ?_ (fun h => h) (fun _ _ h => h) (fun b hb => .inl (by simpa [Value.ownBlock] using hb)) h.base h.sides (by rw [hml]; exact h.few)⟩
  intro w'' hm''
  have hM : Mod (fun b => b = g ∨ b = a) w w'' := (hm4.mono (T := fun b => b = g ∨ b = a) (fun b hb => .inr hb)).trans hm'' (fun b hb => .inl (.inl (hb.resolve_right (fun h => h))))
  have hl' : Lets w'' L xs := hl.mod hM (fun d cs hd hS => by
    rcases hS with hS | hS
    · exact Blk.ne hd h.blk (by decide) hS
    · exact Blk.ne hd hA (by decide) hS)
  have hby' : By w'' 0 bv l.b := own_mod hby hM (fun d hd hS => by
    obtain ⟨cd, hcd⟩ := own_type hby hd
    rcases hS with hS | hS
    · exact Blk.ne hcd h.blk (by decide) hS
    · exact Blk.ne hcd hA (by decide) hS)
  have hcut := (hl'.take i).append (hl'.drop (i + 1))
  unfold moved1
  rw [hli]
  exact ((hcut.take j).append (M := [l]) ⟨bv, [], rfl, hby', rfl⟩).append (hcut.drop j)

set_option maxHeartbeats 1600000 in
theorem move_no (B g s : Nat) (v : Value) (L : List Let) (w : World) (h : NetAt B w g v L s) (i j : Int) (hno : moveOk L i j = false) :
    Calls Try.prog 14 #[.pointer (some ⟨g, 0, none⟩), .int .i64 i, .int .i64 j] w fun e w' => e = .returned (.bool false) ∧ w = w' := by
  obtain ⟨A, c, rfl⟩ := h.slice
  obtain ⟨c0, c1, f0, f1⟩ := h.cells
  have hx : i < 0 ∨ (0 ≤ i ∧ j < 0) ∨ (0 ≤ i ∧ 0 ≤ j ∧ (L.length : Int) ≤ (if i < j then j else i)) := by
    unfold moveOk at hno
    have := of_decide_eq_false hno
    split <;> omega
  clear hno h
  rcases hx with h0 | ⟨h0, h1⟩ | ⟨h0, h1, h2⟩
  · go_enter Try.func14, Try.ntmps14
    go_wp2
    go_ret
    exact ⟨rfl, rfl⟩
  · go_enter Try.func14, Try.ntmps14
    go_wp2
    go_ret
    exact ⟨rfl, rfl⟩
  · by_cases hft : i < j
    all_goals
      simp only [hft, if_true, if_false] at h2
      go_enter Try.func14, Try.ntmps14
      go_wp2
      go_ret
      exact ⟨rfl, rfl⟩
end Go.Proofs.Ytjhlabpnjkepbaa
