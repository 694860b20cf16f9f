/-
  NetGives' walk: what it needs besides.
-/
import Derived.Test.YtjhlabpnjkepbaaSc
import Derived.Test.YtjhlabpnjkepbaaCat
import Derived.Test.YtjhlabpnjkepbaaArgs
import Derived.Laws.IdiomStrings
namespace Go.Proofs.Ytjhlabpnjkepbaa
open Go.RowKit Mem
set_option linter.unusedVariables false

/-- Texts as a row's cells. -/
def strs (T : List (List UInt8)) : List Value := T.map fun b => .string ⟨b.toArray⟩
theorem strs_len (T : List (List UInt8)) : (strs T).length = T.length := by simp [strs]
theorem strs_one (T : List (List UInt8)) : ∀ u ∈ strs T, u.oneCell' = true := by
  intro u hu
  simp only [strs, List.mem_map] at hu
  obtain ⟨z, _, rfl⟩ := hu
  rfl
theorem strs_append (T U : List (List UInt8)) : strs (T ++ U) = strs T ++ strs U := by simp [strs]
theorem el9 : El Try.prog 41 9 1 16 := El.mk_ (z := .string ⟨#[]⟩) Try.underlying41 (by kernel_rfl) rfl (by decide)

/-- The letters that the law sends. -/
def TL (T : List (List UInt8)) : List Let := T.map fun b => ⟨1, 2, b⟩
theorem TL_len (T : List (List UInt8)) : (TL T).length = T.length := by simp [TL]
theorem TL_append (T U : List (List UInt8)) : TL (T ++ U) = TL T ++ TL U := by simp [TL]

/-- The net, and the row of all texts. -/
def Gv (w : World) (B g : Nat) (v : Value) (L : List Let) (T : List (List UInt8)) (wr : World) : Prop :=
  St B g L 0 w wr ∧ wr.ownsRow w.heap.size 9 1 v T.length (strs T) ∧ L.Perm (TL T) ∧ (∀ b ∈ T, b.length ≤ 200) ∧ T.length ≤ 80
theorem Gv.letter {w wr : World} {B g : Nat} {v : Value} {L : List Let} {T : List (List UInt8)} (h : Gv w B g v L T wr) : ∀ l ∈ L, l.f = 1 ∧ l.t = 2 ∧ l.b ∈ T ∧ l.b.length ≤ 200 := by
  intro l hl
  have := h.2.2.1.mem_iff.1 hl
  simp only [TL, List.mem_map] at this
  obtain ⟨b, hb, rfl⟩ := this
  exact ⟨rfl, rfl, hb, h.2.2.2.1 b hb⟩
theorem Gv.good {w wr : World} {B g : Nat} {v : Value} {L : List Let} {T : List (List UInt8)} (h : Gv w B g v L T wr) : Good L := by
  intro l hl
  obtain ⟨h1, h2, _, h3⟩ := h.letter l hl
  rw [h1, h2]
  exact ⟨by omega, by decide, by decide, by decide, by decide⟩
theorem Gv.len {w wr : World} {B g : Nat} {v : Value} {L : List Let} {T : List (List UInt8)} (h : Gv w B g v L T wr) : L.length = T.length := by
  rw [h.2.2.1.length_eq, TL_len]
theorem Gv.fr {w w1 w2 : World} {B g : Nat} {v : Value} {L L' : List Let} {T : List (List UInt8)} (h : Gv w B g v L T w1) (hs : St B g L' 0 w w2) (hf : Fr w1 w2) (hp : L'.Perm L) : Gv w B g v L' T w2 :=
  ⟨hs, own_fr h.2.1 hf (by decide) (by decide), hp.trans h.2.2.1, h.2.2.2⟩
theorem Gv.quiet {w w1 w2 : World} {B g : Nat} {v : Value} {L : List Let} {T : List (List UInt8)} (h : Gv w B g v L T w1) (hm : Mod (fun _ => False) w1 w2) : Gv w B g v L T w2 :=
  ⟨h.1.quiet hm, own_mod h.2.1 hm (fun _ _ h => h), h.2.2⟩

/-- Writes to a row of the call's own, of another kind than a net's. -/
theorem St.row {B g s n sz : Nat} {E : TypeId} {L : List Let} {w w1 w2 : World} {v : Value} {xs : List Value} (h : St B g L s w w1) (ho : w1.ownsRow w.heap.size E sz v n xs) (hE : E ≠ 52 ∧ E ≠ 57 ∧ E ≠ 5) (hm : Mod (fun b => v.ownBlock = some b) w1 w2) : St B g L s w w2 :=
  h.aside hm (fun i hi => ⟨(own_lt ho hi).1, fun cs t hb => by
    obtain ⟨cur, hc⟩ := own_type ho hi
    have : t = E := by
      rcases Nat.decEq t E with hne | he
      · exact absurd rfl (Blk.ne hb hc hne)
      · exact he
    subst this
    exact hE⟩)

/-- []byte(s). -/
theorem rd_conv (w : World) (s : ByteArray) (c k n m : Nat) (hk : s.size = k) : Rd (w.alloc (.cells (bytesRow s c) 5 (n, m))).drew (.slice (some ⟨w.heap.size, 0, none⟩) k c) s.data.toList := by
  subst hk
  refine .inr ⟨⟨w.heap.size, 0, none⟩, c, rfl, fun q u hu => ?_⟩
  rw [Addr.add_lit, Nat.zero_add]
  have hq : q < s.data.toList.length := by have := (List.getElem?_eq_some_iff.1 hu).1; rwa [bts_len] at this
  have hq' : q < s.data.size := by simpa using hq
  have h0 : (w.alloc (.cells (bytesRow s c) 5 (n, m))).drew.heap[w.heap.size]? = some (.cells (bytesRow s c) 5 (n, m)) := by
    show (w.heap.push _)[w.heap.size]? = _
    simp
  have h1 : (w.alloc (.cells (bytesRow s c) 5 (n, m))).drew.cell? ⟨w.heap.size, q, none⟩ = (bytesRow s c)[q]? := by
    unfold World.cell?
    rw [h0]
    rfl
  rw [h1]
  have hq2 : q < s.size := hq'
  simp [bts, bytesRow, Array.getElem?_append, hq2] at hu ⊢
  exact hu

theorem sent_TL (T : List (List UInt8)) (b : List UInt8) (h : T.length < 80) : sent (TL T) 1 2 b = TL (T ++ [b]) := by
  unfold sent
  rw [if_pos ⟨by decide, by decide, by decide, by decide, by rw [TL_len]; omega⟩, TL_append]
  rfl

/-- One text more in the row. -/
theorem Gv.put {w w1 : World} {B g : Nat} {v : Value} {L : List Let} {T : List (List UInt8)} {b : List UInt8} (hs : St B g L 0 w w1) (ho : w1.ownsRow w.heap.size 9 1 v T.length (strs T)) (hp : L.Perm (TL (T ++ [b]))) (hb : ∀ x ∈ T ++ [b], x.length ≤ 200) (hT : T.length < 80)
    (sb : Nat) (hV : Blk w1 sb #[.string ⟨b.toArray⟩] 9) :
    ∃ v' w', (Builtin.append_ #[41, 41] 41 #[v, .slice (some ⟨sb, 0, none⟩) 1 1]).run Try.prog w1 = .ok v' w' ∧ Gv w B g v' L (T ++ [b]) w' := by
  obtain ⟨A, k, w', hr, ho', hm, _⟩ := el9.app1 w.heap.size T.length v (strs T) w1 ho sb _ 1 hV rfl (by unfold maxLen; omega) (by omega) (by intro u hu; simp at hu; subst hu; rfl) hs.2.1.size
  refine ⟨_, w', hr, hs.row ho (by decide) hm, ?_, hp, hb, by simp; omega⟩
  rw [strs_append, List.length_append]
  exact ho'

theorem moved_perm (L : List Let) (i j : Int) : (moved L i j).Perm L := by
  unfold moved
  split
  · next h =>
    have hd := of_decide_eq_true h
    have hi : i.toNat < L.length := by omega
    unfold moved1
    rw [List.getElem?_eq_getElem hi]
    generalize hR : L.take i.toNat ++ L.drop (i.toNat + 1) = R
    have h1 : (R.take j.toNat ++ (some L[i.toNat]).toList ++ R.drop j.toNat).Perm (L[i.toNat] :: R) := by
      simp only [Option.toList_some, List.append_assoc, List.cons_append, List.nil_append]
      refine List.perm_middle.trans ?_
      rw [List.take_append_drop]
    refine h1.trans ?_
    rw [← hR]
    refine List.perm_middle.symm.trans ?_
    rw [← List.drop_eq_getElem_cons hi, List.take_append_drop]
  · exact List.Perm.refl _

/-- Take, and what stays. -/
theorem st_take_fr {B g s : Nat} {L : List Let} {w w1 : World} (h : St B g L s w w1) (hb : Good L) (i : Int) : Calls Try.prog 15 #[.pointer (some ⟨g, 0, none⟩), .int .i64 i] w1 (fun e w2 => TookSt B g L s i w w1 e w2 ∧ Fr w1 w2) := by
  have hst := h
  obtain ⟨hB, hm, v, hn⟩ := h
  refine (take_any B g s v L i w1 hn hb).mono fun e w2 ht => ?_
  have hold : ∀ L' s', Kept B g v L' s' w1 w2 → Mod (fun x => B ≤ x) w1 w2 := fun L' s' hk => by
    obtain ⟨v', h1, h2, h3⟩ := hk
    refine h3.mono (fun x hx => ?_)
    rcases hx with rfl | hx
    · exact hn.base
    · obtain ⟨xs, ho, _⟩ := hn.own
      exact (own_lt ho hx).1
  rcases ht with ⟨v2, hk, hok, he, hby, hkp⟩ | ⟨hok, he, hkp⟩
  · have hhas := takeOk_has hok
    have hrl : rl L i = L[i.toNat] := by unfold rl; rw [if_pos hhas]; simp [hk]
    have htl : tl L s i = L[i.toNat] := by unfold tl; rw [if_pos hok, hrl]
    have htd : taken L s i = L.take i.toNat ++ L.drop (i.toNat + 1) := by unfold taken; rw [if_pos hok]
    rw [← htd] at hkp
    refine ⟨⟨St.kept hB hm hn hkp, hold _ _ hkp, v2, ?_, ?_⟩, KeptR.fr hn hkp⟩
    · rw [htl, hok]; exact he
    · rw [htl]; exact hby
  · have htl : tl L s i = ⟨0, 0, []⟩ := by unfold tl; rw [hok]; rfl
    have htd : taken L s i = L := by unfold taken; rw [hok]; rfl
    refine ⟨⟨?_, hold _ _ hkp, .slice none 0 0, ?_, ?_⟩, KeptR.fr hn hkp⟩
    · rw [htd]; exact St.kept hB hm hn hkp
    · rw [htl, hok]; exact he
    · rw [htl]; exact World.ownsRow_nil _ _ _ _
theorem st_copy_fr {B g s : Nat} {L : List Let} {w w1 : World} (h : St B g L s w w1) (hb : ∀ l ∈ L, l.b.length ≤ 1000000) (i : Int) : Calls Try.prog 13 #[.pointer (some ⟨g, 0, none⟩), .int .i64 i] w1 fun e w2 => e = .returned (.bool (copyOk L i)) ∧ St B g (copied L i) s w w2 ∧ Fr w1 w2 := by
  obtain ⟨hB, hm, v, hn⟩ := h
  exact (copy_any B g s v L i w1 hn hb).mono fun e w2 ⟨he, hk⟩ => ⟨he, St.kept hB hm hn hk, KeptR.fr hn hk⟩

/-- One text sent, and put in the row. -/
theorem Gv.step1 {w wr w2 w3 : World} {B g : Nat} {v : Value} {T : List (List UInt8)} {t : ByteArray} (hG : Gv w B g v (TL T) T wr) (hm : Mod (fun _ => False) wr w2) (s3 : St B g (sent (TL T) 1 2 t.data.toList) 0 w w3) (f3 : Fr w2 w3) (ht : t.size ≤ 200) (hT : T.length < 80) :
    ∃ v' w', (Builtin.append_ #[41, 41] 41 #[v, .slice (some ⟨w3.heap.size, 0, none⟩) 1 1]).run Try.prog (w3.alloc (.cells #[.string t] 9)) = .ok v' w' ∧ Gv w B g v' (TL (T ++ [t.data.toList])) (T ++ [t.data.toList]) w' := by
  rw [sent_TL T _ hT] at s3
  have ho := own_fr (own_mod hG.2.1 hm (fun _ _ h => h)) f3 (by decide) (by decide)
  have hal : Mod (fun _ => False) w3 (w3.alloc (.cells #[.string t] 9)) := (Mod.refl _ _).alloc _
  refine Gv.put (s3.quiet hal) (own_mod ho hal (fun _ _ h => h)) (List.Perm.refl _) (fun x hx => ?_) hT w3.heap.size (Blk.new w3 _ 9)
  rcases List.mem_append.1 hx with h | h
  · exact hG.2.2.2.1 x h
  · simp at h; subst h; simpa using ht
/-- One letter copied, and its text put in the row. -/
theorem Gv.step2 {w wr w3 w4 : World} {B g : Nat} {v : Value} {T : List (List UInt8)} {i : Int} (hG : Gv w B g v (TL T) T wr) (hm : Mod (fun _ => False) wr w3) (s4 : St B g (copied (TL T) i) 0 w w4) (f4 : Fr w3 w4) (hok : hasOk (TL T) i = true) (hT : T.length < 80) :
    ∃ v' w', (Builtin.append_ #[41, 41] 41 #[v, .slice (some ⟨w4.heap.size, 0, none⟩) 1 1]).run Try.prog (w4.alloc (.cells #[.string ⟨(rl (TL T) i).b.toArray⟩] 9)) = .ok v' w' ∧ Gv w B g v' (TL (T ++ [(rl (TL T) i).b])) (T ++ [(rl (TL T) i).b]) w' := by
  have hin := of_decide_eq_true hok
  have hl : i.toNat < (TL T).length := by omega
  have hr : rl (TL T) i = (TL T)[i.toNat] := by unfold rl; rw [if_pos hok]; simp [hl]
  have hmem : (TL T)[i.toNat] ∈ TL T := List.getElem_mem _
  obtain ⟨hf, ht, hbT, hb⟩ := hG.letter _ hmem
  have hcop : copied (TL T) i = TL (T ++ [(rl (TL T) i).b]) := by
    unfold copied
    rw [if_pos (by unfold copyOk; rw [decide_eq_true]; rw [TL_len] at *; omega), TL_append, List.getElem?_eq_getElem hl, hr]
    congr 1
    show [(TL T)[i.toNat]] = [⟨1, 2, _⟩]
    rw [← hf, ← ht]
  rw [hcop] at s4
  have ho := own_fr (own_mod hG.2.1 hm (fun _ _ h => h)) f4 (by decide) (by decide)
  have hal : Mod (fun _ => False) w4 (w4.alloc (.cells #[.string ⟨(rl (TL T) i).b.toArray⟩] 9)) := (Mod.refl _ _).alloc _
  refine Gv.put (s4.quiet hal) (own_mod ho hal (fun _ _ h => h)) (List.Perm.refl _) (fun x hx => ?_) hT w4.heap.size (Blk.new w4 _ 9)
  rcases List.mem_append.1 hx with h | h
  · exact hG.2.2.2.1 x h
  · simp at h; subst h; rw [hr]; exact hb
theorem copyOk_TL (T : List (List UInt8)) (i : Int) (hT : T.length < 80) : copyOk (TL T) i = hasOk (TL T) i := by
  unfold copyOk hasOk
  congr 1
  rw [TL_len]
  apply propext
  constructor <;> intro h <;> omega
theorem copied_no {L : List Let} {i : Int} (h : hasOk L i = false) : copied L i = L := by
  unfold copied
  rw [if_neg]
  unfold copyOk
  have := of_decide_eq_false h
  simp only [decide_eq_true_eq]
  omega

/-- What was taken. -/
def Took1 (w : World) (B g : Nat) (v : Value) (T : List (List UInt8)) (w1 : World) (e : Ending) (w2 : World) : Prop :=
  ∃ b v2 L', e = .returned (.tuple #[.int .i64 1, .int .i64 2, v2, .bool true]) ∧ By w2 w1.heap.size v2 b ∧ b ∈ T ∧ St B g L' 0 w w2 ∧ w2.ownsRow w.heap.size 9 1 v T.length (strs T) ∧ ((⟨1, 2, b⟩ : Let) :: L').Perm (TL T)
theorem Gv.took {w w1 w2 : World} {B g m : Nat} {v : Value} {L : List Let} {T : List (List UInt8)} {e : Ending} (hG : Gv w B g v L T w1) (hm : T.length = m + 1) (h : TookSt B g L 0 (m : Int) w w1 e w2 ∧ Fr w1 w2) : Took1 w B g v T w1 e w2 := by
  have hL : m < L.length := by rw [hG.len]; omega
  obtain ⟨hf, ht, hbT, hb⟩ := hG.letter L[m] (List.getElem_mem _)
  have hhas : hasOk L (m : Int) = true := by unfold hasOk; rw [decide_eq_true]; omega
  have hrl : rl L (m : Int) = L[m] := by unfold rl; rw [if_pos hhas]; simp [hL]
  have htk : takeOk L 0 (m : Int) = true := by
    rw [takeOk_eq hhas, hrl, hf, ht]
    decide
  have htl : tl L 0 (m : Int) = L[m] := by unfold tl; rw [if_pos htk, hrl]
  have htd : taken L 0 (m : Int) = L.take m := by
    unfold taken
    rw [if_pos htk]
    simp only [Int.toNat_natCast]
    rw [List.drop_eq_nil_of_le (by rw [hG.len]; omega), List.append_nil]
  obtain ⟨⟨hs, hmB, v2, he, hby⟩, hfr⟩ := h
  rw [htl, htk, hf, ht] at he
  rw [htl] at hby
  rw [htd] at hs
  refine ⟨L[m].b, v2, L.take m, he, hby, hbT, hs, own_fr hG.2.1 hfr (by decide) (by decide), ?_⟩
  refine List.Perm.trans ?_ hG.2.2.1
  have h1 : (⟨1, 2, L[m].b⟩ : Let) = L[m] := by rw [← hf, ← ht]
  rw [h1]
  have h2 : L = L.take m ++ [L[m]] := by
    have h3 := (List.take_append_drop m L).symm
    rw [List.drop_eq_getElem_cons hL, List.drop_eq_nil_of_le (show L.length ≤ m + 1 by rw [hG.len]; omega)] at h3
    exact h3
  have h4 := List.perm_append_comm (l₁ := [L[m]]) (l₂ := L.take m)
  rw [← h2] at h4
  exact h4
/-- And taken out of the row. -/
theorem gv_cut {w w2 w3 : World} {B g m q : Nat} {A2 : Option Addr} {k2 : Nat} {L' : List Let} {T : List (List UInt8)} {b : List UInt8} (hs : St B g L' 0 w w2) (hp : ((⟨1, 2, b⟩ : Let) :: L').Perm (TL T)) (hT : T.length = m + 1) (hT80 : T.length ≤ 80) (hTb : ∀ b ∈ T, b.length ≤ 200) (hq : T[q]? = some b) (hm : Mod (fun _ => False) w2 w3)
    (ho : w3.ownsRow w2.heap.size 9 1 (.slice A2 m k2) m ((strs T).take (q * 1) ++ (strs T).drop ((q + 1) * 1))) : Gv w B g (.slice A2 m k2) L' (T.take q ++ T.drop (q + 1)) w3 := by
  have hqT := (List.getElem?_eq_some_iff.1 hq).1
  have hqb := (List.getElem?_eq_some_iff.1 hq).2
  have hlen : (T.take q ++ T.drop (q + 1)).length = m := by rw [cut_len T q hqT, hT]; rfl
  refine ⟨hs.quiet hm, ?_, ?_, ?_, by omega⟩
  · rw [hlen]
    refine own_base ?_ hs.2.1.size
    have : strs (T.take q ++ T.drop (q + 1)) = (strs T).take (q * 1) ++ (strs T).drop ((q + 1) * 1) := by
      rw [Nat.mul_one, Nat.mul_one, strs_append]; simp [strs, List.map_take, List.map_drop]
    rw [this]
    exact ho
  · refine List.Perm.cons_inv (hp.trans ?_)
    have h1 : T = T.take q ++ b :: T.drop (q + 1) := by rw [← hqb, ← List.drop_eq_getElem_cons hqT, List.take_append_drop]
    have h2 : TL T = TL (T.take q) ++ (⟨1, 2, b⟩ : Let) :: TL (T.drop (q + 1)) := by
      conv => lhs; rw [h1]
      rw [TL_append]
      rfl
    rw [h2, TL_append]
    exact List.perm_middle
  · intro x hx
    rcases List.mem_append.1 hx with h | h
    · exact hTb x (List.mem_of_mem_take h)
    · exact hTb x (List.mem_of_mem_drop h)
/-- A measure: how many elements. -/
def slen : Value → Nat
  | .slice _ n _ => n
  | _ => 0
theorem Gv.form {w wr : World} {B g : Nat} {v : Value} {L : List Let} {T : List (List UInt8)} (h : Gv w B g v L T wr) : ∃ A c, v = .slice A T.length c ∧ (T.length = 0 ∨ ∃ r, A = some ⟨r, 0, none⟩) := by
  rcases own_cases h.2.1 with ⟨rfl, hn, _⟩ | ⟨g', cap, cur, rfl, _⟩
  · exact ⟨none, 0, by rw [hn], .inl hn⟩
  · exact ⟨_, cap, rfl, .inr ⟨g', rfl⟩⟩
end Go.Proofs.Ytjhlabpnjkepbaa
