/-
  The names of all files, rising.
-/
import Derived.Test.YtoceddcppbddnaaDc
import Derived.Sort.OwnSorted
namespace Go.Proofs.Ytoceddcppbddnaa
open Go.RowKit Mem Go.Maps
set_option linter.unusedVariables false
set_option linter.unusedSimpArgs false

theorem info9 : (Try.prog.info? 9).map (fun i => (i.zero, i.size, i.bytes)) = some (some (.string ByteArray.empty), 1, 16) := by kernel_rfl
theorem el37 : El Try.prog 37 9 1 16 := El.mk_ Try.underlying37 info9 rfl (by decide)
theorem before_lt : ∀ (a b : Bs), bytesBefore a b = true → a < b
  | [], [], h => by cases h
  | [], _ :: _, _ => List.nil_lt_cons _ _
  | _ :: _, [], h => by cases h
  | a :: r, b :: s, h => by
    have h' : (a < b || (a == b && bytesBefore r s)) = true := h
    rw [List.cons_lt_cons_iff]
    simp at h'
    rcases h' with h' | ⟨h1, h2⟩
    · exact .inl h'
    · exact .inr ⟨h1, before_lt r s h2⟩
theorem keys_md (L : List Fr) : strKeys (md L) = L.map (·.name) := by
  unfold md
  show (L.map kv).map (fun p => strOf p.1) = _
  rw [List.map_map]
  rfl
theorem sorted_names {L : List Fr} (h : L.Pairwise (fun f f' => bytesBefore f.name f'.name = true)) : (L.map (·.name)).mergeSort leB = L.map (·.name) := by
  apply List.mergeSort_of_pairwise
  rw [List.pairwise_map]
  exact h.imp (fun {a b} hb => by simp only [decide_eq_true_eq]; exact List.le_of_lt (before_lt _ _ hb))
def strs (l : List Bs) : List Value := l.map Go.Proofs.encStr
theorem strs_app (l m : List Bs) : strs (l ++ m) = strs l ++ strs m := by simp [strs]
theorem strs_len (l : List Bs) : (strs l).length = l.length := by simp [strs]
theorem sv_enc (x : Bs) : Value.string (sv x) = Go.Proofs.encStr x := rfl
set_option maxRecDepth 100000 in
set_option maxHeartbeats 1600000 in
theorem names_any (w : World) (d : Nat) (X : Dk) (h : At w d X) : Calls Try.prog 32 #[.pointer (some ⟨d, 0, none⟩)] w fun e w' => ∃ A c, e = .returned (.slice A X.L.length c) ∧ w'.ownsRow w.heap.size 9 1 (.slice A X.L.length c) X.L.length (strs (X.L.map (·.name))) ∧ Mod (fun _ => False) w w' := by
  have H := Lib.hid h
  have hcan := Lib.hid (sorted_names h.map.canon)
  have hmany := h.many
  obtain ⟨n, hn, hmp⟩ := h.map
  obtain ⟨w1, hrun, hrg, hgr, hsz⟩ := hmp.range law9 Try.underlying53
  have hm1 : Mod (fun _ => False) w w1 := (Mod.refl _ w).grown hgr (fun k hk => by cases hk)
  have HM1 := Lib.hid hm1
  have HR1 := Lib.hid hrg
  have hc0 : w.cell? ⟨d, 1, none⟩ = some (.map (some X.mb)) := h.cell 1
  obtain ⟨r, hr⟩ : ∃ r, w.heap.size = r := ⟨_, rfl⟩
  have HO0 : Hid (w1.ownsRow w.heap.size 9 1 (.slice none 0 0) 0 (strs [])) := Lib.hid (World.ownsRow_nil _ _ _ _)
  have HC0 : Hid (Collected (md X.L) (has (md X.L)) []) := Lib.hid (Collected.start _)
  have hsize : size (md X.L) = X.L.length := by unfold md; rw [size_eq, List.length_map]
  rw [hr] at hrun HR1 HO0
  have HRr : Hid (w.heap.size = r) := Lib.hid hr
  clear h hmp hgr hsz hm1 hrg hr
  go_enter Try.func32, Try.ntmps32
  go_wp2
  go_loopw [3] (fun v wr => ∃ (left : Lit → Bool) (cnt k : Nat) (ss : List Bs) (A : Option Addr) (c : Nat), v = .slice A k c ∧ k + cnt ≤ X.L.length ∧ Hid (ss.length = k) ∧ Hid (wr.ranges Try.prog 9 ptrR X.mb r n (md X.L) left cnt) ∧ Hid (Mod (fun _ => False) w wr) ∧ Hid (Collected (md X.L) left ss) ∧ Hid (wr.ownsRow r 9 1 (.slice A k c) k (strs ss))) (fun _ wr => wr.rangeLeft X.mb r)
  case atStart => exact ⟨_, _, 0, [], none, 0, rfl, by rw [hsize]; omega, Lib.hid rfl, HR1, HM1, HC0, HO0⟩
  case round =>
    obtain ⟨left, cnt, k, ss, A, c, rfl, hkc, hsl, hrg, hm, hcol, hown⟩ := hrel
    have hmeas := hrg.out.left_eq
    rcases hrg.out.next law9 0 with ⟨h0, hl0, hnx⟩ | ⟨key, v, kl, y, w2, cnt2, hkey, hlk, hv, hat, hnx, hrg2, hlt, hg2, hs2, hen⟩
    · have hperm : ss.Perm (X.L.map (·.name)) := by
        rw [← keys_md]
        exact hcol.out.perm hrg.out.owns law9 Try.underlying9 hl0
      have hkl : k = X.L.length := by
        have := hperm.length_eq
        rw [List.length_map, hsl.out] at this
        exact this
      have hsort : ss.mergeSort leB = X.L.map (·.name) := by rw [mergeSort_of_perm hperm]; exact hcan.out
      have HSO := Lib.hid hsort
      clear hrg hcol hmeas hl0 h0 hperm hsort
      subst hkl
      rcases own_cases hown.out with ⟨hv0, hn0, _⟩ | ⟨g, cap, cur, hv0, hg, hB, hnc, hcm, hcs, hx⟩
      · injection hv0 with e1 e2 e3
        subst e1 e3
        have hsrt := fun wx => Try.slices_Sort_string_none none 0 wx
        rw [e2] at hown ⊢
        have HL0 : Hid (X.L = []) := Lib.hid (List.eq_nil_of_length_eq_zero e2)
        go_wp2_with (fail)
        refine (hsrt _).mono ?_
        rintro e w3 ⟨rfl, rfl⟩
        go_wp2
        go_ret
        rw [HL0.out]
        exact ⟨_, _, rfl, World.ownsRow_nil _ _ _ _, hm.out⟩
      · injection hv0 with e1 e2 e3
        subst e1 e3
        have hsl' := hsl.out
        have hH : Go.Sort.Holds Go.Proofs.encStr wr g 0 ss.toArray := holds_of_block hB (by rw [hsl']; rw [Nat.mul_one] at hx; exact hx)
        have hsrt := Try.slices_Sort_string g 0 c ss wr hH hB.lt (by omega)
        rw [hsl'] at hsrt
        have HF : Hid (∀ (m : Nat) (os : Array Obj), (Go.Sort.grow (Go.Sort.putRow Go.Proofs.encStr (Go.Sort.ahead wr m) g 0 (ss.mergeSort fun x y => decide (x ≤ y)).toArray) os).ownsRow r 9 1 (.slice (some ⟨g, 0, none⟩) X.L.length c) X.L.length (strs (X.L.map (·.name))) ∧ Mod (fun _ => False) w (Go.Sort.grow (Go.Sort.putRow Go.Proofs.encStr (Go.Sort.ahead wr m) g 0 (ss.mergeSort fun x y => decide (x ≤ y)).toArray) os)) := Lib.hid (fun m os => by
          constructor
          · have := ownsRow_sorted (w := wr) (base := r) (g := g) (cap := c) (n := m) (e := 9) (os := os) (cur := cur) (ss := ss) (ts := ss.mergeSort leB) (by simp) hg hB (by omega) hcm hcs
            rw [hsl'] at this
            rw [← HSO.out]
            exact this
          · exact hm.out.grown (grownBy_sorted _) (fun i hi => .inr (by injection hi with hi; subst hi; rw [HRr.out]; exact hg)))
        clear hB hx hH hsl'
        go_wp2_with (fail)
        refine hsrt.mono ?_
        rintro e w3 ⟨rfl, m, os, hw3⟩
        have HF3 := HF.out m os
        rw [← hw3] at HF3
        have HF4 := Lib.hid HF3
        clear HF3 hw3 HF
        go_wp2
        go_ret
        rw [HRr.out]
        exact ⟨_, _, rfl, HF4.out.1, HF4.out.2⟩
    · obtain ⟨f, hf, rfl, rfl, rfl⟩ := step_file hkey hv hat
      have hm2 : Mod (fun _ => False) w w2 := hm.out.grown hg2 (fun k hk => .inr (by injection hk with hk; subst hk; exact Nat.le_of_eq HRr.out))
      have hnew : Value.ownBlock (.slice A k c) ≠ some r := fun e => row_ne_iter hown.out hrg.out e.symm
      have hown2 := hown.out.kept hg2 (.inr hnew)
      have hA2 := H.out.still hm2
      have hmbne : ∀ i, (Value.slice A k c).ownBlock = some i → X.mb ≠ i := fun i hi => by
        obtain ⟨cur, hb⟩ := own_type hown2 hi
        exact hA2.map.ne hb
      have hrsz : r ≤ w2.heap.size := by rw [← HRr.out]; exact hm2.size
      obtain ⟨A2, c2, w3, hr, ho3, hmA, _, _⟩ := el37.app1 r k (.slice A k c) (strs ss) (w2.alloc (.cells #[.string (sv f.name)] 9)) (hown2.alloc _) w2.heap.size #[.string (sv f.name)] 1 (Blk.new _ _ _) rfl (by unfold maxLen; omega) (by omega) (by simp; rfl) (by simp; omega)
      have hm3 : Mod (fun _ => False) w w3 := (hm2.alloc _).trans hmA (fun i hi => .inr (by rw [HRr.out]; exact (own_lt hown2 hi).1))
      have hgA : (w2.alloc (.cells #[.string (sv f.name)] 9)).grownBy w3 (Value.slice A k c).ownBlock := ⟨hmA.os, hmA.tape, hmA.output, hmA.size, fun i hi hne => hmA.block i hi (fun h => hne h.symm)⟩
      have hrg3 := (hrg2.alloc (.cells #[.string (sv f.name)] 9)).kept hgA (fun e => hmbne _ e.symm rfl) (fun e => hnew e.symm)
      have HRG3 := Lib.hid hrg3
      have HM3 := Lib.hid hm3
      have HC3 := Lib.hid (hcol.out.step hlk hat)
      have hss3 : strs ss ++ #[Value.string (sv f.name)].toList = strs (ss ++ [f.name]) := by rw [strs_app]; rfl
      rw [hss3] at ho3
      have HO3 := Lib.hid ho3
      have HSL : Hid ((ss ++ [f.name]).length = k + 1) := Lib.hid (by rw [List.length_append, hsl.out]; rfl)
      have hlt2 : w3.rangeLeft X.mb r < wr.rangeLeft X.mb r := by rw [hmeas, hrg3.left_eq]; exact hlt
      have hkc3 : k + 1 + cnt2 ≤ X.L.length := by omega
      clear hrg hm hcol hown hmeas hkey hlk hv hat hrg2 hlt hg2 hs2 hm2 hnew hown2 hA2 hmbne hrsz ho3 hmA hm3 hgA hrg3 hss3 hkc hsl
      go_wp2_with (at_builtin; refine wpList_append_run rfl _ _ 37 37 rfl _ _ rfl rfl hr ?_)
      go_roundw
      case rel => exact ⟨_, cnt2, k + 1, _, A2, c2, rfl, hkc3, HSL, HRG3, HM3, HC3, HO3⟩
      case measure => exact hlt2
end Go.Proofs.Ytoceddcppbddnaa
