/-
  The reader: numbers, texts, nodes.
-/
import Derived.Test.YtknaaaphdjdaoaaDoorVn
import Derived.Recover
import Derived.WalkSmall
namespace Go.Proofs.YtknaaaphdjdaoaaDoor
open Go.RowKit Mem
set_option linter.unusedVariables false
set_option linter.unusedSimpArgs false

theorem ne_of_get {α : Type} {l : List α} {j : Nat} {u : α} (h : l[j]? = some u) : l ≠ [] := by
  rintro rfl
  simp at h
theorem Rd.keep {S : Nat → Prop} {w w' : World} {v : Value} {l : Bs} (h : Rd w v l) (hm : Mod S w w') (hS : ∀ a n c, v = .slice (some a) n c → l ≠ [] → ¬ S a.block) : Rd w' v l := by
  rcases h with h | ⟨x, c, hv, hc⟩
  · exact .inl h
  · exact .inr ⟨x, c, hv, fun j u hj => cell_keep hm (hc j u hj) (by rw [add_blk]; exact hS x _ c hv (fun e => ne_of_get hj (by rw [e]; rfl)))⟩
theorem RdC.keep {S : Nat → Prop} {w w' : World} {v : Value} {l : Bs} (h : RdC w v l) (hm : Mod S w w') (hS : ∀ a n c, v = .slice (some a) n c → l ≠ [] → ¬ S a.block) : RdC w' v l := ⟨h.1.keep hm hS, h.2⟩
theorem add_add (a : Addr) (j k : Nat) : (a.add j).add k = a.add (j + k) := by
  unfold Addr.add
  split <;> split <;> simp_all [Nat.add_assoc]
/-- What is left of a row. -/
theorem RdC.drop {w : World} {x : Addr} {n c : Nat} {l : Bs} (h : RdC w (.slice (some x) n c) l) (k : Nat) (hk : k ≤ n) : RdC w (.slice (some (x.add k)) (n - k) (c - k)) (l.drop k) := by
  have hn := h.len
  obtain ⟨h1, A, c', hv, hl, hm⟩ := h
  injection hv with e1 e2 e3
  subst e3
  have e : (l.drop k).length = n - k := by rw [List.length_drop]; omega
  refine ⟨.inr ⟨x.add k, c - k, by rw [e], fun j u hj => ?_⟩, some (x.add k), c - k, by rw [e], by omega, by omega⟩
  rcases h1 with ⟨hv, _⟩ | ⟨x', c'', hv, hc⟩
  · cases hv
  · injection hv with f1 f2 f3
    injection f1 with f1
    subst f1
    rw [add_add]
    refine hc (k + j) u ?_
    unfold bts at hj ⊢
    rw [List.getElem?_map, List.getElem?_drop] at hj
    rw [List.getElem?_map]
    exact hj
theorem RdC.empty (w : World) (x : Addr) (c : Nat) (hc : c ≤ maxLen) : RdC w (.slice (some x) 0 c) [] := ⟨.inr ⟨x, c, rfl, fun j u hj => by simp [bts] at hj⟩, some x, c, rfl, Nat.zero_le _, hc⟩
/-- A reader that stands at a place; it and its bytes lie below B. -/
def Rr (B : Nat) (w : World) (r : Nat) (bv : Value) (l : Bs) (at_ : Nat) : Prop := Blk w r #[bv, .int .i64 (at_ : Int)] 70 ∧ RdC w bv l ∧ (∀ a n c, bv = .slice (some a) n c → l ≠ [] → ¬ a.block = r ∧ a.block < B) ∧ at_ ≤ l.length ∧ l.length ≤ 4194304 ∧ r < B ∧ B ≤ w.heap.size
theorem Rr.keep {S : Nat → Prop} {B : Nat} {w w' : World} {r : Nat} {bv : Value} {l : Bs} {k : Nat} (h : Rr B w r bv l k) (hm : Mod S w w') (hS : ∀ b, S b → B ≤ b) : Rr B w' r bv l k :=
  ⟨h.1.mod hm (fun hs => by have := hS _ hs; have := h.2.2.2.2.2.1; omega), h.2.1.keep hm (fun a n c hv hne hs => by have := hS _ hs; have := (h.2.2.1 a n c hv hne).2; omega), h.2.2.1, h.2.2.2.1, h.2.2.2.2.1, h.2.2.2.2.2.1, Nat.le_trans h.2.2.2.2.2.2 hm.size⟩
theorem Rr.mod {B : Nat} {w w' : World} {r : Nat} {bv : Value} {l : Bs} {k : Nat} (h : Rr B w r bv l k) (hm : Mod (fun _ => False) w w') : Rr B w' r bv l k := h.keep hm (fun _ h => h.elim)
theorem Rr.step {B : Nat} {w : World} {r : Nat} {bv : Value} {l : Bs} {k : Nat} (h : Rr B w r bv l k) (n j : Nat) (hj : j ≤ l.length) : Rr B ((w.drewN n).setCell ⟨r, 1, none⟩ (.int .i64 (j : Int))) r bv l j :=
  have hm : Mod (· = r) w ((w.drewN n).setCell ⟨r, 1, none⟩ (.int .i64 (j : Int))) := Mod.setCell (S := fun x => x = r) ((Mod.refl _ w).drewN n) (p := ⟨r, 1, none⟩) (.inl rfl) _
  ⟨(h.1.drewN n).set 1 _, h.2.1.keep hm (fun a n c hv hne => (h.2.2.1 a n c hv hne).1), h.2.2.1, hj, h.2.2.2.2.1, h.2.2.2.2.2.1, Nat.le_trans h.2.2.2.2.2.2 hm.size⟩
/-- A number that is read at a place, at most so much: it, and where it ends; or where reading gives up. -/
def nb (l : Bs) (k : Nat) (most : Nat) : Except Nat (Nat × Nat) := if (gn (l.drop k)).2 = 0 ∨ most < (gn (l.drop k)).1 then .error k else .ok ((gn (l.drop k)).1, k + (gn (l.drop k)).2)
theorem nb_le {l : Bs} {k most n j : Nat} (hk : k ≤ l.length) (h : nb l k most = .ok (n, j)) : n ≤ most ∧ k < j ∧ j ≤ l.length := by
  unfold nb at h
  split at h
  · cases h
  · next hh =>
    injection h with h
    injection h with h1 h2
    have := (gn_le (l.drop k)).1
    rw [List.length_drop] at this
    omega
/-- A text. -/
def tb (l : Bs) (k : Nat) (most : Nat) : Except Nat (Bs × Nat) := if (gt (l.drop k) (most : Int)).2 = 0 then .error k else .ok ((gt (l.drop k) (most : Int)).1, k + (gt (l.drop k) (most : Int)).2)
/-- One behind the other. -/
def thn {α β : Type} (o : Except Nat (α × Nat)) (f : α → Nat → Except Nat (β × Nat)) : Except Nat (β × Nat) :=
  match o with
  | .error p => .error p
  | .ok x => f x.1 x.2
/-- So many numbers of nodes. -/
def rowR (l : Bs) : Nat → Nat → Except Nat (List Int × Nat)
  | 0, k => .ok ([], k)
  | n + 1, k => thn (nb l k 5) fun z j => thn (rowR l n j) fun zs j' => .ok ((z : Int) :: zs, j')
def nodesR (l : Bs) (k : Nat) : Except Nat (List Int × Nat) := thn (nb l k 5) fun n j => rowR l n j
def stopAt (k : Nat) := [({ v := .iface 65 (.int .i64 (k : Int)), recovered := false } : PanicEntry)]
/-- How reading a number ends. -/
def ReadsN (B : Nat) (r : Nat) (bv : Value) (l : Bs) (w : World) (o : Except Nat (Nat × Nat)) (e : Ending) (w' : World) : Prop :=
  match o with
  | .ok x => e = .returned (.int .i64 (x.1 : Int)) ∧ Rr B w' r bv l x.2 ∧ Mod (· = r) w w'
  | .error p => e = .panicked (stopAt p) ∧ Mod (· = r) w w'
/-- How reading something else ends. -/
def Reads {α : Type} (V : World → Value → α → Prop) (B : Nat) (r : Nat) (bv : Value) (l : Bs) (w : World) (o : Except Nat (α × Nat)) (e : Ending) (w' : World) : Prop :=
  match o with
  | .ok x => ∃ v, e = .returned v ∧ Rr B w' r bv l x.2 ∧ Mod (· = r) w w' ∧ V w' v x.1
  | .error p => e = .panicked (stopAt p) ∧ Mod (· = r) w w'
set_option maxRecDepth 100000 in
set_option maxHeartbeats 3200000 in
theorem number_any (B : Nat) (r : Nat) (bv : Value) (l : Bs) (k : Nat) (most : Nat) (hmo : most ≤ 1073741824) (w : World) (h : Rr B w r bv l k) :
    Calls Tryd.prog 48 #[.pointer (some ⟨r, 0, none⟩), .int .i64 (most : Int)] w (ReadsN B r bv l w (nb l k most)) := by
  obtain ⟨A, c, rfl⟩ : ∃ A c, bv = .slice A l.length c := by obtain ⟨A, c, hv, _⟩ := h.2.1.2; exact ⟨A, c, hv⟩
  have H := Lib.hid h
  have c0 : w.cell? ⟨r, 0, none⟩ = some (.slice A l.length c) := h.1.cell 0
  have c1 : w.cell? ⟨r, 1, none⟩ = some (.int .i64 (k : Int)) := h.1.cell 1
  have z1 := h.1.frozen 1
  have hkl := h.2.2.2.1
  have hll := h.2.2.2.2.1
  obtain ⟨N, hN⟩ : ∃ N, (gn (l.drop k)).1 = N := ⟨_, rfl⟩
  obtain ⟨K, hK⟩ : ∃ K, (gn (l.drop k)).2 = K := ⟨_, rfl⟩
  have hnb : nb l k most = if K = 0 ∨ most < N then .error k else .ok (N, k + K) := by unfold nb; rw [hN, hK]
  have hKl : k + K ≤ l.length := by have := (gn_le (l.drop k)).1; rw [hK, List.length_drop] at this; omega
  have hN64 : N < 18446744073709551616 := by have := (gn_le (l.drop k)).2; rw [hN] at this; exact this
  have hlc : l.length ≤ c := by obtain ⟨_, A', c', hv, h1, _⟩ := h.2.1; injection hv with _ _ e; omega
  have hcm : c ≤ 9223372036854775807 := by obtain ⟨_, A', c', hv, _, h1⟩ := h.2.1; injection hv with _ _ e; have := maxLen_le; omega
  have hg : ∃ v, (∀ n, Calls Tryd.prog 57 #[v] (w.drewN n) fun e w' => e = .returned (.tuple #[.int .u64 (N : Int), .int .i64 (K : Int)]) ∧ w' = w.drewN n) ∧ ((∃ x, A = some x ∧ ((c ≠ k ∧ v = .slice (some (x.add k)) (l.length - k) (c - k)) ∨ (c = k ∧ v = .slice (some x) 0 0))) ∨ (A = none ∧ l.length = 0 ∧ c = 0 ∧ k = 0 ∧ v = .slice none 0 0)) := by
    have hr := h.2.1
    cases A with
    | none =>
      rcases hr.1 with ⟨hv, rfl⟩ | ⟨x, c', hv, _⟩
      · injection hv with _ _ e
        have hk0 : k = 0 := by simpa using hkl
        subst hk0
        refine ⟨.slice none 0 0, fun n => ?_, .inr ⟨rfl, rfl, e, rfl, rfl⟩⟩
        have := getnum_nil (w.drewN n)
        have e1 : gn ([] : Bs) = (0, 0) := rfl
        rw [List.drop_nil, e1] at hN hK
        rw [← hN, ← hK]
        exact this
      · cases hv
    | some x =>
      by_cases hck : c = k
      · refine ⟨.slice (some x) 0 0, fun n => ?_, .inl ⟨x, rfl, .inr ⟨hck, rfl⟩⟩⟩
        have := getnum_rd (RdC.empty (w.drewN n) x 0 (Nat.zero_le _))
        have e1 : l.drop k = [] := List.drop_eq_nil_of_le (by omega)
        rw [e1] at hN hK
        rw [hN, hK] at this
        exact this
      · refine ⟨.slice (some (x.add k)) (l.length - k) (c - k), fun n => ?_, .inl ⟨x, rfl, .inl ⟨hck, rfl⟩⟩⟩
        have := getnum_rd ((hr.mod ((Mod.refl _ w).drewN n)).drop k hkl)
        rw [hN, hK] at this
        exact this
  obtain ⟨v, hg, hv⟩ := hg
  have hwm : IntKind.u64.wrap (most : Int) = (most : Int) := by rw [IntKind.wrap_u64]; omega
  have hkn : (k : Int) ≤ (l.length : Int) := by omega
  have hknc : (k : Int) ≤ (c : Int) := by omega
  rw [hnb]
  have HKL := Lib.hid hKl
  have HST := Lib.hid (fun q => H.out.step q (k + K) hKl)
  have HMS := Lib.hid (fun (q : Nat) (v : Value) => Mod.setCell (S := fun x => x = r) ((Mod.refl _ w).drewN q) (p := ⟨r, 1, none⟩) (.inl rfl) v)
  have hw1 : IntKind.i64.wrap ((k : Int) + (K : Int)) = (k : Int) + (K : Int) := by rw [IntKind.wrap_i64]; omega
  have hpc : ((k + K : Nat) : Int) = (k : Int) + (K : Int) := by omega
  rw [hpc] at HST
  clear hnb hN hK h hN64 hKl hpc
  by_cases hbad : K = 0 ∨ most < N
  · rw [if_pos hbad]
    have hbad2 : ¬ (K : Int) = 0 → (most : Int) < (N : Int) := by omega
    go_enter Tryd.func48, Tryd.ntmps48
    go_wp2_with (fail)
    rcases hv with ⟨x, rfl, ⟨hck, rfl⟩ | ⟨hck, rfl⟩⟩ | ⟨rfl, hl0, hc0, hk0, rfl⟩
    · go_quiet ((go_at_call 57; refine Calls.quiet_of_same (hg _)))
      go_wp2_with (fail)
      all_goals first
        | (exfalso; omega)
        | exact ⟨rfl, rfl, (Mod.refl _ w).drewN _⟩
    · subst hck
      go_quiet ((go_at_call 57; refine Calls.quiet_of_same (hg _)))
      go_wp2_with (fail)
      all_goals first
        | (exfalso; omega)
        | exact ⟨rfl, rfl, (Mod.refl _ w).drewN _⟩
    · subst hc0 hk0
      go_quiet ((go_at_call 57; refine Calls.quiet_of_same (hg _)))
      go_wp2_with (fail)
      all_goals first
        | (exfalso; omega)
        | exact ⟨rfl, rfl, (Mod.refl _ w).drewN _⟩
  · rw [if_neg hbad]
    have hK0 : ¬ K = 0 := by omega
    have hK0' : ((K : Int) == 0) = false := by simp; omega
    have hNm : (N : Int) ≤ (most : Int) := by omega
    have hwN : IntKind.i64.wrap (N : Int) = (N : Int) := by rw [IntKind.wrap_i64]; omega
    go_enter Tryd.func48, Tryd.ntmps48
    go_wp2_with (fail)
    rcases hv with ⟨x, rfl, ⟨hck, rfl⟩ | ⟨hck, rfl⟩⟩ | ⟨rfl, hl0, hc0, hk0, rfl⟩
    · go_quiet ((go_at_call 57; refine Calls.quiet_of_same (hg _)))
      go_wp2_with (fail)
      all_goals first
        | (exfalso; omega)
        | (go_ret
           exact ⟨rfl, HST.out _, HMS.out _ _⟩)
    · exfalso
      have := HKL.out
      omega
    · exfalso
      have := HKL.out
      omega
end Go.Proofs.YtknaaaphdjdaoaaDoor
