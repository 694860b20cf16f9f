/-
  Numbers in groups of seven bits, put in place; rows of numbers.
-/
import Derived.Test.YtknaaaphdjdaoaaDoorTr
import Derived.Deep.Upon
namespace Go.Proofs.YtknaaaphdjdaoaaDoor
open Go.RowKit Mem
set_option linter.unusedVariables false
set_option linter.unusedSimpArgs false

theorem md_then {a b c : World} (h : Mod (fun _ => False) a b) (k : Mod (fun _ => False) b c) : Mod (fun _ => False) a c := h.trans k (fun _ h => h.elim)
theorem md_al {a c : World} {o : Obj} (k : Mod (fun _ => False) (a.alloc o) c) : Mod (fun _ => False) a c := md_then ((Mod.refl _ a).alloc o) k
theorem or128 (n : Nat) : Go.bits .or .u8 ((n : Int) % 256) 128 = ((n % 128 + 128 : Nat) : Int) := by
  have h : ∀ m : Nat, m < 256 → Go.bits .or .u8 (m : Int) 128 = ((m % 128 + 128 : Nat) : Int) := by decide +kernel
  have := h (n % 256) (by omega)
  rw [Int.natCast_emod] at this
  rw [show (n : Int) % 256 = (n : Int) % ((256 : Nat) : Int) from rfl, this]
  congr 1
  omega
theorem pnF_stop (f n : Nat) (h : n < 128) : pnF f n = [n.toUInt8] := by
  cases f with
  | zero => rfl
  | succ f => unfold pnF; rw [if_pos h]
theorem pnF_go (f n : Nat) (h : ¬ n < 128) : pnF (f + 1) n = (n % 128 + 128).toUInt8 :: pnF f (n / 128) := by
  rw [pnF, if_neg h]
theorem u8_nat (n : Nat) (h : n < 256) : (n.toUInt8.toNat : Int) = (n : Int) := by simp; omega
theorem pnF_len : ∀ (f n : Nat), 1 ≤ (pnF f n).length ∧ (pnF f n).length ≤ f + 1
  | 0, n => ⟨Nat.le_refl _, Nat.le_refl _⟩
  | f + 1, n => by
    unfold pnF
    split
    · simp
    · obtain ⟨h1, h2⟩ := pnF_len f (n / 128)
      simp only [List.length_cons]
      omega
theorem pn_len (n : Nat) : 1 ≤ (pn n).length ∧ (pn n).length ≤ 11 := pnF_len 10 n
/-- What is put together, and which blocks it turned: Nx w v w' v': of w's blocks v's own alone has turned, and v' lies in it, or in a new one. -/
def Nx (w : World) (v : Value) (w' : World) (v' : Value) : Prop := Mod (fun b => v.ownBlock = some b) w w' ∧ ∀ b, v'.ownBlock = some b → v.ownBlock = some b ∨ w.heap.size ≤ b
theorem Nx.refl (w : World) (v : Value) : Nx w v w v := ⟨Mod.refl _ w, fun b h => .inl h⟩
theorem Nx.trans {w w1 w2 : World} {v v1 v2 : Value} (h : Nx w v w1 v1) (k : Nx w1 v1 w2 v2) : Nx w v w2 v2 :=
  ⟨h.1.trans k.1 (fun i hi => h.2 i hi), fun b hb => (k.2 b hb).elim (fun h1 => h.2 b h1) (fun h1 => .inr (Nat.le_trans h.1.size h1))⟩
theorem Nx.drewN {w w1 : World} {v v1 : Value} (h : Nx w v w1 v1) (n : Nat) : Nx w v (w1.drewN n) v1 := ⟨h.1.drewN n, h.2⟩
theorem Nx.alloc {w w1 : World} {v v1 : Value} {o : Obj} (h : Nx (w.alloc o) v w1 v1) : Nx w v w1 v1 :=
  ⟨Mod.trans (T := fun b => v.ownBlock = some b) ((Mod.refl _ w).alloc o) h.1 (fun i hi => .inl hi), fun b hb => (h.2 b hb).imp id (fun h1 => by simp at h1; omega)⟩
theorem Ob.appU {w0 w : World} {v x : Value} {tx : TypeId} {l m : Bs} (h : Ob w0 w v l) (hm : Mod (fun _ => False) w0 w) (hl : l.length + m.length ≤ 140737488355328) (hsrc0 : Src Tryd.prog 1 tx x m.length (bts m) w) :
    ∃ a c w', (Builtin.append_ #[24, tx] 24 #[v, x]).run Tryd.prog w = .ok (.slice a (l.length + m.length) c) w' ∧ Ob w0 w' (.slice a (l.length + m.length) c) (l ++ m) ∧ Mod (fun _ => False) w0 w' ∧ Nx w v w' (.slice a (l.length + m.length) c) := by
  obtain ⟨i, hi, hz0, hz1, hz2⟩ := info_parts info_u8
  have ht := Tryd.underlying24
  have hlen : (l ++ m).length = l.length + m.length := List.length_append ..
  have hsrc : Src Tryd.prog i.size tx x m.length (bts m) w := by rw [hz1]; exact hsrc0
  rcases h with ⟨rfl, rfl⟩ | ⟨g, hg, cap, cur, rfl, hB, hlc, hcm, hcs, htk⟩
  · by_cases hm0 : m = []
    · subst hm0
      have hl0 := hsrc.len
      refine ⟨none, 0, w, ?_, .inl ⟨rfl, rfl⟩, hm, Nx.refl _ _⟩
      exact run_append_nothing (P := Tryd.prog) w 24 tx 24 5 i ht hi none 0 0 (Nat.le_refl _) x hsrc
    have hm1 : 1 ≤ m.length := List.length_pos_iff.2 hm0
    have hrun := run_append_grow_src (P := Tryd.prog) w 24 tx 24 5 i (.int .u8 0) ht hi hz0 none 0 0 []
      (run_firstCells_none w.drew i.size 0 0 0)
      x m.length (bts m) hsrc (by omega) (by omega) (by rw [hz2]; exact growslice_fits (by omega) (by omega))
    have hge := grownCap_ge w (0 + m.length) 0 5
    have hcm2 := grownCap_le_maxLen w (0 + m.length) 0 5 (by unfold maxLen; omega)
    refine ⟨_, _, _, hrun, .inr ⟨w.heap.size, hm.size, _, _, by rw [hlen], Blk.new w.drew _ 5, by simp only [List.nil_append]; omega, hcm2, ?_, ?_⟩, hm.drew.alloc _, (Mod.refl _ w).drew.alloc _, fun b hb => .inr (by simp [Value.ownBlock] at hb; omega)⟩
    · simp only [Array.size_append, List.size_toArray, size_zeroCells, List.length_append, bts_len, List.length_nil]
      have : (Value.int IntKind.u8 0).cells.size = 1 := rfl
      rw [this]
      omega
    · simp only [Array.toList_append, List.nil_append]
      rw [← bts_len m]
      exact List.take_left
  · by_cases hroom : l.length + m.length ≤ cap
    · have hrun := run_append_room_src (P := Tryd.prog) w 24 tx 24 5 i ht hi g 0 l.length cap x m.length (bts m) hsrc hroom
        (fun j hj => by
          rw [bts_len] at hj
          rw [hB.cell, hz1, Array.getElem?_eq_getElem (by omega)]; rfl)
        (fun j hj => hB.frozen _)
      rw [hz1, Nat.zero_add, Nat.mul_one] at hrun
      refine ⟨_, _, _, hrun, .inr ⟨g, hg, cap, _, by rw [hlen], hB.setCells (bts m) l.length (by rw [bts_len]; omega), by omega, hcm, by rw [spl_size _ _ _ (by rw [bts_len]; omega)]; exact hcs, ?_⟩, hm.trans (Mod.setCells (S := fun k => k = g) _ _ (Mod.refl _ w) (.inl rfl)) (fun k hk => .inr (by rw [hk]; exact hg)), Mod.setCells _ _ (Mod.refl _ w) (.inl rfl), fun b hb => .inl hb⟩
      rw [spl_list, htk, ← bts_app, ← bts_len (l ++ m)]
      exact List.take_left
    · have hrun := run_append_grow_src (P := Tryd.prog) w 24 tx 24 5 i (.int .u8 0) ht hi hz0 (some ⟨g, 0, none⟩) l.length cap (bts l)
        (by
          rw [hz1]
          exact run_firstCells_some w.drew 1 l.length ⟨g, 0, none⟩ l.length cap (bts l) (by rw [bts_len, Nat.mul_one]) (fun j u hu => by
            rw [Addr.add_lit, Nat.zero_add]
            have e1 : w.drew.cell? ⟨g, j, none⟩ = w.cell? ⟨g, j, none⟩ := rfl
            rw [e1, hB.cell]
            have hj : j < l.length := by have := (List.getElem?_eq_some_iff.1 hu).1; rwa [bts_len] at this
            rw [← htk, List.getElem?_take_of_lt hj] at hu
            simpa using hu))
        x m.length (bts m) hsrc (by omega) (by omega) (by rw [hz2]; exact growslice_fits (by omega) (by omega))
      have hge := grownCap_ge w (l.length + m.length) cap 5
      have hcm2 := grownCap_le_maxLen w (l.length + m.length) cap 5 (by unfold maxLen; omega)
      refine ⟨_, _, _, hrun, .inr ⟨w.heap.size, hm.size, _, _, by rw [hlen], Blk.new w.drew _ 5, by rw [hlen]; exact hge, hcm2, ?_, ?_⟩, hm.drew.alloc _, (Mod.refl _ w).drew.alloc _, fun b hb => .inr (by simp [Value.ownBlock] at hb; omega)⟩
      · simp only [Array.size_append, List.size_toArray, size_zeroCells, List.length_append, bts_len]
        have : (Value.int IntKind.u8 0).cells.size = 1 := rfl
        rw [this]
        omega
      · simp only [Array.toList_append]
        rw [← bts_app, ← bts_len (l ++ m)]
        exact List.take_left
theorem src_one (w : World) (b : UInt8) : Src Tryd.prog 1 24 (.slice (some ⟨w.heap.size, 0, none⟩) 1 1) 1 (bts [b]) (w.alloc (.cells #[.int .u8 (b.toNat : Int)] 5)) :=
  Src.ofSlice _ Tryd.underlying24 ⟨w.heap.size, 0, none⟩ 1 1 (bts [b]) rfl (fun j u hj => by
    rw [Addr.add_lit, Nat.zero_add, alloc_cell]
    rw [← Array.getElem?_toList]; exact hj) (fun u hu => by
      simp only [bts, List.mem_map] at hu
      obtain ⟨z, _, rfl⟩ := hu
      rfl)
theorem Ob.app1U {w0 w : World} {v : Value} {l : Bs} (b : UInt8) (h : Ob w0 w v l) (hm : Mod (fun _ => False) w0 w) (hl : l.length + 1 ≤ 140737488355328) :
    ∃ a c w', (Builtin.append_ #[24, 24] 24 #[v, .slice (some ⟨w.heap.size, 0, none⟩) 1 1]).run Tryd.prog (w.alloc (.cells #[.int .u8 (b.toNat : Int)] 5)) = .ok (.slice a (l.length + 1) c) w' ∧ Ob w0 w' (.slice a (l.length + 1) c) (l ++ [b]) ∧ Mod (fun _ => False) w0 w' ∧ Nx w v w' (.slice a (l.length + 1) c) :=
  let ⟨a, c, w', h1, h2, h3, h4⟩ := (h.mod ((Mod.refl _ w).alloc _)).appU (m := [b]) (hm.alloc _) hl (src_one w b)
  ⟨a, c, w', h1, h2, h3, h4.alloc⟩
set_option maxRecDepth 100000 in
set_option maxHeartbeats 6400000 in
/-- low.Var. -/
theorem var_any (w0 : World) (v : Value) (l : Bs) (N : Nat) (hN : N < 9223372036854775808) (hl : l.length ≤ 4194304) (w : World) (hO : Ob w0 w v l) (hm : Mod (fun _ => False) w0 w) :
    Calls Tryd.prog 45 #[v, .int .i64 (N : Int)] w fun e w' => ∃ v', e = .returned v' ∧ Ob w0 w' v' (l ++ pn N) ∧ Mod (fun _ => False) w0 w' ∧ Nx w v w' v' := by
  obtain ⟨A, c, rfl⟩ := hO.val
  have H := Lib.hid (And.intro hO (And.intro hm (Nx.refl w (.slice A l.length c))))
  clear hO hm
  go_enter Tryd.func45, Tryd.ntmps45
  go_wp2_with (fail)
  go_loopw [0, 1] (fun v0 v1 wr => ∃ (acc : Bs) (M f : Nat) (B : Option Addr) (cb : Nat), v0 = .slice B acc.length cb ∧ v1 = .int .i64 (M : Int) ∧ M < 9223372036854775808 ∧ f ≤ 10 ∧ acc.length ≤ 4194324 - f ∧ Hid (M < 128 ^ (f + 1)) ∧ Hid (acc ++ pnF f M = l ++ pn N) ∧ Hid (Ob w0 wr (.slice B acc.length cb) acc ∧ Mod (fun _ => False) w0 wr ∧ Nx w (.slice A l.length c) wr (.slice B acc.length cb))) (fun _ i _ => (iOf i).toNat)
  case atStart => exact ⟨l, N, 10, A, c, rfl, rfl, hN, by omega, by omega, Lib.hid (Nat.lt_trans hN (by decide)), Lib.hid rfl, H⟩
  case round =>
    obtain ⟨acc, M, f, B, cb, rfl, rfl, hM, hf, hal, hMf, hE, hO⟩ := hrel
    by_cases h128 : M < 128
    · have q1 : ¬ (128 : Int) ≤ (M : Int) := by omega
      have hE2 := hE.out
      rw [pnF_stop f M h128] at hE2
      have hwM : IntKind.u8.wrap (M : Int) = (M : Int) := by rw [IntKind.wrap_u8]; omega
      obtain ⟨B2, c2, w2, hr, hO2, hm2, hx2⟩ := hO.out.1.app1U M.toUInt8 hO.out.2.1 (by omega)
      rw [u8_nat M (by omega)] at hr
      have HH := Lib.hid (And.intro hO2 (And.intro hm2 (And.intro (hO.out.2.2.trans hx2) hE2)))
      clear hE hE2 hO hO2 hm2 hMf H hx2
      go_wp2_with (at_builtin; refine wpList_append_run rfl _ _ 24 24 rfl _ _ rfl rfl hr ?_)
      go_ret
      obtain ⟨h1, h2, h3, h4⟩ := HH.out
      exact ⟨_, rfl, by rw [← h4]; exact h1, h2, h3⟩
    · have q1 : (128 : Int) ≤ (M : Int) := by omega
      cases f with
      | zero => exact absurd hMf.out (by omega)
      | succ f =>
        have hE2 := hE.out
        rw [pnF_go f M h128] at hE2
        obtain ⟨Z, hZ⟩ : ∃ Z, M % 128 + 128 = Z := ⟨_, rfl⟩
        have hor := or128 M
        have hZ256 : Z < 256 := by omega
        rw [hZ] at hor hE2
        obtain ⟨B2, c2, w2, hr, hO2, hm2, hx2⟩ := hO.out.1.app1U Z.toUInt8 hO.out.2.1 (by omega)
        rw [u8_nat Z hZ256] at hr
        have hlen : (acc ++ [Z.toUInt8]).length = acc.length + 1 := List.length_append ..
        have hMd : M / 128 < 128 ^ (f + 1) := by
          have := hMf.out
          rw [Nat.pow_succ] at this
          exact Nat.div_lt_of_lt_mul (by rw [Nat.mul_comm]; exact this)
        have HMd := Lib.hid hMd
        have HE : Hid ((acc ++ [Z.toUInt8]) ++ pnF f (M / 128) = l ++ pn N) := Lib.hid (by rw [← hE2, List.append_assoc]; rfl)
        have HH : Hid (Ob w0 w2 (.slice B2 (acc ++ [Z.toUInt8]).length c2) (acc ++ [Z.toUInt8]) ∧ Mod (fun _ => False) w0 w2 ∧ Nx w (.slice A l.length c) w2 (.slice B2 (acc ++ [Z.toUInt8]).length c2)) := Lib.hid (by rw [hlen]; exact ⟨hO2, hm2, hO.out.2.2.trans hx2⟩)
        clear hE hE2 hO hO2 hm2 hMf hZ hMd H hx2
        go_wp2_with (at_builtin; refine wpList_append_run rfl _ _ 24 24 rfl _ _ rfl rfl hr ?_)
        refine ⟨⟨acc ++ [Z.toUInt8], M / 128, f, B2, c2, by rw [hlen], by simp, by omega, by omega, by rw [hlen]; omega, HMd, HE, HH⟩, ?_⟩
        simp only [iOf]
        omega
end Go.Proofs.YtknaaaphdjdaoaaDoor
