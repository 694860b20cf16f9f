/-
  NetMoves' walk: what it needs besides.
-/
import Derived.Test.YtjhlabpnjkepbaaSa
namespace Go.Proofs.Ytjhlabpnjkepbaa
open Go.RowKit Mem
set_option linter.unusedVariables false

/-- No block but a net's and its row's has turned. -/
def Fr (w w' : World) : Prop := w.heap.size ≤ w'.heap.size ∧ ∀ k cs t, Blk w k cs t → t ≠ 52 → t ≠ 57 → Blk w' k cs t
theorem Fr.refl (w : World) : Fr w w := ⟨Nat.le_refl _, fun _ _ _ h _ _ => h⟩
theorem Fr.of_mod {w w' : World} (hm : Mod (fun _ => False) w w') : Fr w w' := ⟨hm.size, fun _ _ _ h _ _ => h.mod hm (fun h => h)⟩
theorem KeptR.fr {R : Nat → Prop} {B g s s' : Nat} {v : Value} {L L' : List Let} {w w' : World} (hn : NetAt B w g v L s) (hk : KeptR R B g v L' s' w w') : Fr w w' := by
  obtain ⟨v', _, _, hm⟩ := hk
  obtain ⟨xs, ho, _⟩ := hn.own
  refine ⟨hm.size, fun k cs t hb h1 h2 => hb.mod hm (fun hS => ?_)⟩
  rcases hS with hS | hS
  · exact Blk.ne hb hn.blk h1 hS
  · obtain ⟨cur, hc⟩ := own_type ho hS
    exact Blk.ne hb hc h2 rfl
theorem own_fr {w w' : World} {base n size : Nat} {e : TypeId} {v : Value} {xs : List Value} (h : w.ownsRow base e size v n xs) (hf : Fr w w') (h1 : e ≠ 52) (h2 : e ≠ 57) : w'.ownsRow base e size v n xs := by
  rcases own_cases h with ⟨rfl, hn, hx⟩ | ⟨g, cap, cur, rfl, hg, hB, hn, hc, hs, hx⟩
  · exact h.1 |> fun _ => ⟨h.1, h.2.elim .inl (fun ⟨g, cap, cur, hv, _⟩ => by cases hv)⟩
  · exact own_of (hf.2 _ _ _ hB h1 h2) hg hn hc hs hx
theorem st_send_fr {B g s : Nat} {L : List Let} {w w1 : World} (h : St B g L s w w1) (f t : Int) (bv : Value) (b : List UInt8) (hb : Rd w1 bv b) (hbl : b.length ≤ 1000000)
    (hf : -9223372036854775808 ≤ f) (hf' : f ≤ 9223372036854775807) (ht : -9223372036854775808 ≤ t) (ht' : t ≤ 9223372036854775807) : Calls Try.prog 12 #[.pointer (some ⟨g, 0, none⟩), .int .i64 f, .int .i64 t, bv] w1 fun e w2 => e = .returned (.tuple #[]) ∧ St B g (sent L f t b) s w w2 ∧ Fr w1 w2 := by
  obtain ⟨hB, hm, v, hn⟩ := h
  exact (send_any B g s v L w1 w1 hn (Mod.refl _ _) f t bv b hb hbl hf hf' ht ht').mono fun e w2 ⟨he, hk⟩ => ⟨he, St.kept hB hm hn hk, KeptR.fr hn hk⟩
theorem st_move_fr {B g s : Nat} {L : List Let} {w w1 : World} (h : St B g L s w w1) (i j : Int) : Calls Try.prog 14 #[.pointer (some ⟨g, 0, none⟩), .int .i64 i, .int .i64 j] w1 fun e w2 => e = .returned (.bool (moveOk L i j)) ∧ St B g (moved L i j) s w w2 ∧ Fr w1 w2 := by
  obtain ⟨hB, hm, v, hn⟩ := h
  exact (move_any B g s v L w1 hn i j).mono fun e w2 ⟨he, hk⟩ => ⟨he, St.kept hB hm hn hk, KeptR.fr hn hk⟩
theorem st_look {B g s : Nat} {L : List Let} {w w1 : World} (h : St B g L s w w1) (hb : ∀ l ∈ L, l.b.length ≤ 1000000) (i : Int) : Calls Try.prog 11 #[.pointer (some ⟨g, 0, none⟩), .int .i64 i] w1 fun e w2 => St B g L s w w2 ∧ Mod (fun _ => False) w1 w2 ∧ ∃ v2, e = .returned (.tuple #[.int .i64 (rl L i).f, .int .i64 (rl L i).t, v2, .bool (hasOk L i)]) ∧ By w2 w1.heap.size v2 (rl L i).b := by
  have h' := h
  obtain ⟨hB, hm, v, hn⟩ := h
  refine (look_any B g s v L i w1 hn hb).mono fun e w2 ⟨hm2, hk⟩ => ⟨h'.quiet hm2, hm2, ?_⟩
  rcases hk with ⟨v2, hk, h0, he, hby⟩ | ⟨hno, he, rfl⟩
  · have hhas : hasOk L i = true := by unfold hasOk; rw [decide_eq_true]; omega
    have hrl : rl L i = L[i.toNat] := by unfold rl; rw [if_pos hhas]; simp [hk]
    refine ⟨v2, ?_, ?_⟩
    · rw [hrl, hhas]; exact he
    · rw [hrl]; exact hby
  · have hhas : hasOk L i = false := by unfold hasOk; rw [decide_eq_false hno]
    have hrl : rl L i = ⟨0, 0, []⟩ := by unfold rl; rw [hhas]; rfl
    refine ⟨.slice none 0 0, ?_, ?_⟩
    · rw [hrl, hhas]; exact he
    · rw [hrl]; exact World.ownsRow_nil _ _ _ _

/-- Ints as a row's cells. -/
def ints (l : List Nat) : List Value := l.map fun (z : Nat) => .int .i64 (z : Int)
theorem ints_len (l : List Nat) : (ints l).length = l.length := by simp [ints]
theorem ints_one (l : List Nat) : ∀ u ∈ ints l, u.oneCell' = true := by
  intro u hu
  simp only [ints, List.mem_map] at hu
  obtain ⟨z, _, rfl⟩ := hu
  rfl
theorem info3 : (Try.prog.info? 3).map (fun i => (i.zero, i.size, i.bytes)) = some (some (.int .i64 0), 1, 8) := by kernel_rfl
/-- Ints appended to a row of the call's own. -/
theorem app_int (B n : Nat) (v : Value) (xs : List Value) (w : World) (hown : w.ownsRow B 3 1 v n xs) (ad : Addr) (m c : Nat) (news : List Value) (hn : n + m ≤ 1000) (hl : news.length = m) (hnews : ∀ j u, news[j]? = some u → w.cell? (ad.add j) = some u) (h1 : ∀ u ∈ news, u.oneCell' = true) (hB : B ≤ w.heap.size) :
    ∃ A k w', (Builtin.append_ #[42, 42] 42 #[v, .slice (some ad) m c]).run Try.prog w = .ok (.slice A (n + m) k) w' ∧ w'.ownsRow B 3 1 (.slice A (n + m) k) (n + m) (xs ++ news) ∧ Mod (fun b => v.ownBlock = some b) w w' ∧ (v ≠ .slice none 0 0 → ∃ g, A = some ⟨g, 0, none⟩) := by
  obtain ⟨i3, hi3, hz0, hz1, hz2⟩ := info_parts info3
  obtain ⟨v', w', hr, ho, hg, hnil, _⟩ := run_append_own_at (P := Try.prog) w B 42 42 3 i3 _ 1 8 Try.underlying42 hi3 hz0 hz1 hz2 rfl (by omega) v n xs hown ad m c news (by omega) hnews h1 (by unfold maxLen; omega) (by omega) hB
  obtain ⟨A, k, rfl, hsome⟩ : ∃ A k, v' = .slice A (n + m) k ∧ (v ≠ .slice none 0 0 → ∃ g, A = some ⟨g, 0, none⟩) := by
    rcases own_cases ho with ⟨rfl, hn, _⟩ | ⟨g, cap, cur, rfl, _⟩
    · exact ⟨none, 0, by rw [hn], fun hv => absurd (hnil.1 rfl).1 hv⟩
    · exact ⟨_, cap, rfl, fun _ => ⟨g, rfl⟩⟩
  exact ⟨A, k, w', hr, ho, (Mod.refl _ w).grown hg (fun k hk => .inl hk), hsome⟩

/-- The letters that the law sends. -/
def lets (l : List Nat) : List Let := l.map fun z => ⟨1, 2, [UInt8.ofNat z]⟩
theorem lets_good (l : List Nat) : Good (lets l) := by
  intro x hx
  simp only [lets, List.mem_map] at hx
  obtain ⟨z, _, rfl⟩ := hx
  exact ⟨by simp, by show (0 : Int) ≤ 1; decide, by show (1 : Int) ≤ 63; decide, by show (0 : Int) ≤ 2; decide, by show (2 : Int) ≤ 63; decide⟩
/-- One number moved. -/
def mv (l : List Nat) (i k : Nat) : List Nat := (l.take i ++ l.drop (i + 1)).take k ++ [i] ++ (l.take i ++ l.drop (i + 1)).drop k
theorem lets_moved (n i k : Nat) (hi : i < n) (hk : k < n) : moved1 (lets (List.range n)) i k = lets (mv (List.range n) i k) := by
  unfold moved1 mv lets
  have : (List.range n)[i]? = some i := by simp [hi]
  rw [List.getElem?_map, this, List.map_append, List.map_append, List.map_take, List.map_drop, List.map_append, List.map_take, List.map_drop]
  rfl
theorem mv_len (n i k : Nat) (hi : i < n) : (mv (List.range n) i k).length = n := by
  have := cut_len (List.range n) i (by simpa using hi)
  rw [List.length_range] at this
  unfold mv
  rw [List.length_append, List.length_append, List.length_take, List.length_drop, this]
  simp; omega

theorem rd_new (w : World) (j : Nat) (hj : j < 256) : Rd (w.alloc (.cells #[.int .u8 (j : Int)] 5)) (.slice (some ⟨w.heap.size, 0, none⟩) 1 1) [UInt8.ofNat j] := by
  refine .inr ⟨⟨w.heap.size, 0, none⟩, 1, rfl, fun q u hu => ?_⟩
  rw [Addr.add_lit, (Blk.new w #[.int .u8 (j : Int)] 5).cell]
  have : (UInt8.ofNat j).toNat = j := by simp; omega
  simpa [bts, this] using hu
theorem St.aside {S : Nat → Prop} {B g s : Nat} {L : List Let} {w w1 w2 : World} (h : St B g L s w w1) (hm : Mod S w1 w2) (hS : ∀ i, S i → w.heap.size ≤ i ∧ ∀ cs t, Blk w1 i cs t → t ≠ 52 ∧ t ≠ 57 ∧ t ≠ 5) : St B g L s w w2 := by
  obtain ⟨hB, hm1, v, hn⟩ := h
  refine ⟨hB, hm1.trans hm (fun i hi => .inr (hS i hi).1), v, hn.mod hm (fun hi => ((hS g hi).2 _ _ hn.blk).1 rfl) (fun a ha hi => ?_) (fun d cs hd hi => ((hS d hi).2 _ _ hd).2.2 rfl)⟩
  obtain ⟨xs, ho, _⟩ := hn.own
  obtain ⟨cur, hc⟩ := own_type ho ha
  exact ((hS a hi).2 _ _ hc).2.1 rfl
/-- Writes to a row of ints of the call's own. -/
theorem St.ints {B g s n : Nat} {L : List Let} {w w1 w2 : World} {v : Value} {xs : List Value} (h : St B g L s w w1) (ho : w1.ownsRow w.heap.size 3 1 v n xs) (hm : Mod (fun b => v.ownBlock = some b) w1 w2) : St B g L s w w2 :=
  h.aside hm (fun i hi => ⟨(own_lt ho hi).1, fun cs t hb => by
    obtain ⟨cur, hc⟩ := own_type ho hi
    have : t = 3 := by
      rcases Nat.decEq t 3 with hne | he
      · exact absurd rfl (Blk.ne hb hc hne)
      · exact he
    subst this
    decide⟩)

theorem ints_take (l : List Nat) (i : Nat) : (ints l).take i = ints (l.take i) := by simp [ints, List.map_take]
theorem ints_drop (l : List Nat) (i : Nat) : (ints l).drop i = ints (l.drop i) := by simp [ints, List.map_drop]
theorem ints_append (l m : List Nat) : ints (l ++ m) = ints l ++ ints m := by simp [ints]
/-- The row's first part copied to a new row. -/
def I34 (W : World) (r j c5 : Nat) (R : List Nat) : Prop := ∀ X q, Mod (fun _ => False) W X → Blk X q #[] 3 → W.heap.size ≤ q →
  ∃ A8 k8 w8, (Builtin.append_ #[42, 42] 42 #[.slice (some ⟨q, 0, none⟩) 0 0, .slice (some ⟨r, 0, none⟩) j c5]).run Try.prog X = .ok (.slice A8 j k8) w8 ∧ w8.ownsRow W.heap.size 3 1 (.slice A8 j k8) j (ints (R.take j)) ∧ Mod (fun b => b = q) X w8 ∧ Mod (fun _ => False) W w8 ∧ ∃ g, A8 = some ⟨g, 0, none⟩
theorem i34 {W : World} {r j m c5 : Nat} {R : List Nat} (hrow : ∀ p u, (ints R)[p]? = some u → W.cell? ⟨r, p, none⟩ = some u) (hR : R.length = m) (hm : m < 200) (hj : j ≤ m) : I34 W r j c5 R := by
  intro X q hm1 hX hq
  have hown0 : X.ownsRow W.heap.size 3 1 (.slice (some ⟨q, 0, none⟩) 0 0) 0 [] := own_of hX hq (Nat.le_refl _) (Nat.zero_le _) rfl rfl
  obtain ⟨A1, k1, w1, hr1, ho1, hm2, hs1⟩ := app_int W.heap.size 0 _ [] X hown0 ⟨r, 0, none⟩ j c5 (ints (R.take j)) (by omega) (by rw [ints_len, List.length_take]; omega)
    (fun p u hp => by
      rw [Addr.add_lit, Nat.zero_add]
      refine cell_mod hm1 (hrow p u ?_) (fun h => h)
      rw [← ints_take] at hp
      have := (List.getElem?_eq_some_iff.1 hp).1
      rw [List.getElem?_take_of_lt (by rw [List.length_take] at this; omega)] at hp
      exact hp) (ints_one _) hm1.size
  rw [Nat.zero_add] at hr1 ho1
  have hm3 : Mod (fun b => b = q) X w1 := hm2.mono (fun b hb => by simpa [Value.ownBlock, eq_comm] using hb)
  exact ⟨A1, k1, w1, hr1, ho1, hm3, hm1.trans hm3 (fun i hi => .inr (by omega)), hs1 (by simp)⟩
def I37 (W : World) (j : Nat) (R : List Nat) (l : Nat) : Prop := ∀ A8 k8 w8, Mod (fun _ => False) W w8 → w8.ownsRow W.heap.size 3 1 (.slice A8 j k8) j (ints (R.take j)) → ∀ Y sb, Mod (fun _ => False) w8 Y → Blk Y sb #[.int .i64 (l : Int)] 3 →
  ∃ A9 k9 w9, (Builtin.append_ #[42, 42] 42 #[.slice A8 j k8, .slice (some ⟨sb, 0, none⟩) 1 1]).run Try.prog Y = .ok (.slice A9 (j + 1) k9) w9 ∧ w9.ownsRow W.heap.size 3 1 (.slice A9 (j + 1) k9) (j + 1) (ints (R.take j ++ [l])) ∧ Mod (fun _ => False) W w9
theorem i37 {W : World} {j m : Nat} {R : List Nat} {l : Nat} (hm : m < 200) (hj : j ≤ m) : I37 W j R l := by
  intro A8 k8 w8 hm8 ho8 Y sb hmY hV
  have hsz := hm8.size
  have hsz2 := hmY.size
  obtain ⟨A9, k9, w9, hr, ho, hm9, _⟩ := app_int W.heap.size j _ _ Y (own_mod ho8 hmY (fun _ _ h => h)) ⟨sb, 0, none⟩ 1 1 (ints [l]) (by omega) rfl (fun p u hp => by rw [Addr.add_lit, hV.cell]; simpa [ints] using hp) (ints_one _) (by omega)
  refine ⟨A9, k9, w9, hr, ?_, (hm8.trans hmY (fun _ h => h.elim)).trans hm9 (fun i hi => .inr (own_lt ho8 hi).1)⟩
  rw [ints_append]
  exact ho
/-- And the rest behind it, the part from d on. -/
def I41 (W : World) (r d m c5 n : Nat) (R Z : List Nat) : Prop := ∀ A9 k9 w9, Mod (fun _ => False) W w9 → w9.ownsRow W.heap.size 3 1 (.slice A9 n k9) n (ints Z) →
  ∃ A10 k10 w10, (Builtin.append_ #[42, 42] 42 #[.slice A9 n k9, .slice (if c5 = d then some ⟨r, 0, none⟩ else some ⟨r, d, none⟩) (m - d) (c5 - d)]).run Try.prog w9 = .ok (.slice A10 (n + (m - d)) k10) w10 ∧ Mod (fun _ => False) W w10 ∧ w10.ownsRow W.heap.size 3 1 (.slice A10 (n + (m - d)) k10) (n + (m - d)) (ints (Z ++ R.drop d)) ∧ ((∃ g, A9 = some ⟨g, 0, none⟩) → ∃ g, A10 = some ⟨g, 0, none⟩)
theorem i41 {W : World} {r d m c5 n : Nat} {R Z : List Nat} (hrow : ∀ p u, (ints R)[p]? = some u → W.cell? ⟨r, p, none⟩ = some u) (hR : R.length = m) (hm : m < 200) (hn : n < 200) (hd : d ≤ m) (hc : m ≤ c5) : I41 W r d m c5 n R Z := by
  intro A9 k9 w9 hm9 ho9
  obtain ⟨Ad, hA⟩ : ∃ Ad : Addr, (if c5 = d then (some ⟨r, 0, none⟩ : Option Addr) else some ⟨r, d, none⟩) = some Ad := by split <;> exact ⟨_, rfl⟩
  rw [hA]
  obtain ⟨A10, k10, w10, hr, ho, hm10, hs10⟩ := app_int W.heap.size n _ _ w9 ho9 Ad (m - d) (c5 - d) (ints (R.drop d)) (by omega) (by rw [ints_len, List.length_drop]; omega)
    (fun p u hp => by
      have hlt := (List.getElem?_eq_some_iff.1 hp).1
      rw [ints_len, List.length_drop] at hlt
      rw [if_neg (by omega)] at hA
      obtain rfl := Option.some.inj hA
      rw [Addr.add_lit]
      refine cell_mod hm9 (hrow _ u ?_) (fun h => h)
      rw [← ints_drop, List.getElem?_drop] at hp
      exact hp) (ints_one _) hm9.size
  refine ⟨A10, k10, w10, hr, hm9.trans hm10 (fun i hi => .inr (own_lt ho9 hi).1), ?_, fun ⟨g, hg⟩ => hs10 (by rw [hg]; simp)⟩
  rw [ints_append]
  exact ho
/-- A row of ints, its cells. -/
theorem ints_row {w : World} {base r n c : Nat} {l : List Nat} (h : w.ownsRow base 3 1 (.slice (some ⟨r, 0, none⟩) n c) n (ints l)) : base ≤ r ∧ n ≤ c ∧ c ≤ maxLen ∧ ∀ p u, (ints l)[p]? = some u → w.cell? ⟨r, p, none⟩ = some u := by
  rcases own_cases h with ⟨h, _⟩ | ⟨g', cap', cur', hv, hb, hB', hn', hc', hs', hx'⟩
  · cases h
  · injection hv with e1 e2 e3
    injection e1 with e1
    injection e1 with e1
    subst e1 e3
    refine ⟨hb, hn', hc', fun p u hu => ?_⟩
    have hl := h.1
    have hj : p < n * 1 := by have := (List.getElem?_eq_some_iff.1 hu).1; omega
    rw [hB'.cell]
    rw [← hx', List.getElem?_take_of_lt hj] at hu
    simpa using hu
end Go.Proofs.Ytjhlabpnjkepbaa
