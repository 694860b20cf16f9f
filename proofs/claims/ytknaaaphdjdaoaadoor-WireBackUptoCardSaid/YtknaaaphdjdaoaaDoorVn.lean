/-
  Rows of numbers, put behind bytes.
-/
import Derived.Test.YtknaaaphdjdaoaaDoorVa
namespace Go.Proofs.YtknaaaphdjdaoaaDoor
open Go.RowKit Mem
set_option linter.unusedVariables false
set_option linter.unusedSimpArgs false

theorem add_blk (a : Addr) (j : Nat) : (a.add j).block = a.block := by
  unfold Addr.add
  split <;> rfl
/-- A row of ints that reads so. -/
def RI (w : World) (x : Value) (zs : List Int) : Prop := (x = .slice none 0 0 ∧ zs = []) ∨ ∃ a c, x = .slice (some a) zs.length c ∧ zs.length ≤ c ∧ c ≤ maxLen ∧ ∀ (j : Nat) z, zs[j]? = some z → w.cell? (a.add j) = some (.int .i64 z)
theorem RI.keep {S : Nat → Prop} {w w' : World} {x : Value} {zs : List Int} (h : RI w x zs) (hm : Mod S w w') (hS : ∀ a n c, x = .slice (some a) n c → ¬ S a.block) : RI w' x zs := by
  rcases h with h | ⟨a, c, hv, hl, hcm, hc⟩
  · exact .inl h
  · exact .inr ⟨a, c, hv, hl, hcm, fun j z hj => cell_keep hm (hc j z hj) (by rw [add_blk]; exact hS a _ c hv)⟩
theorem RI.mod {w w' : World} {x : Value} {zs : List Int} (h : RI w x zs) (hm : Mod (fun _ => False) w w') : RI w' x zs := h.keep hm (fun _ _ _ _ h => h)
theorem RI.val {w : World} {x : Value} {zs : List Int} (h : RI w x zs) : ∃ a c, x = .slice a zs.length c := by
  rcases h with ⟨h, rfl⟩ | ⟨a, c, h, _⟩
  · exact ⟨_, _, h⟩
  · exact ⟨_, _, h⟩
theorem RI.at_ {w : World} {A : Option Addr} {n c : Nat} {zs : List Int} (h : RI w (.slice A n c) zs) (i : Nat) (hi : i < zs.length) : ∃ a, A = some a ∧ w.cell? (a.add i) = some (.int .i64 zs[i]) := by
  rcases h with ⟨h, rfl⟩ | ⟨a, c', h, _, _, hc⟩
  · simp at hi
  · injection h with h1
    exact ⟨a, h1, hc i _ (List.getElem?_eq_getElem hi)⟩
theorem RI.len {w : World} {A : Option Addr} {n c : Nat} {zs : List Int} (h : RI w (.slice A n c) zs) : zs.length = n := by
  rcases h with ⟨h, rfl⟩ | ⟨a, c', h, _⟩
  · injection h with _ h2 _; rw [h2]; rfl
  · injection h with _ h2 _; exact h2.symm
/-- Numbers, one behind the other. -/
def pnz (zs : List Int) : Bs := zs.flatMap fun z => pn z.toNat
theorem pnz_len (zs : List Int) : (pnz zs).length ≤ 11 * zs.length := by
  induction zs with
  | nil => simp [pnz]
  | cons z r ih =>
    have e : pnz (z :: r) = pn z.toNat ++ pnz r := rfl
    have := (pn_len z.toNat).2
    rw [e, List.length_append, List.length_cons]
    omega
theorem pnz_snoc (zs : List Int) (i : Nat) (h : i < zs.length) : pnz (zs.take (i + 1)) = pnz (zs.take i) ++ pn zs[i].toNat := by
  unfold pnz
  rw [List.take_add_one, List.getElem?_eq_getElem h, List.flatMap_append]
  simp
set_option maxRecDepth 100000 in
set_option maxHeartbeats 3200000 in
theorem numbers_any (w0 : World) (v x : Value) (l : Bs) (zs : List Int) (hz : ∀ z ∈ zs, 0 ≤ z ∧ z ≤ 9223372036854775807) (hl : l.length + 11 * zs.length ≤ 4194304) (w : World) (hO : Ob w0 w v l) (hm : Mod (fun _ => False) w0 w) (hx : RI w x zs) (hfar : ∀ a n c, x = .slice (some a) n c → ¬ v.ownBlock = some a.block) :
    Calls Tryd.prog 25 #[v, x] w fun e w' => ∃ v', e = .returned v' ∧ Ob w0 w' v' (l ++ pnz zs) ∧ Mod (fun _ => False) w0 w' ∧ Nx w v w' v' := by
  obtain ⟨A, c, rfl⟩ := hO.val
  obtain ⟨a, d, rfl⟩ := hx.val
  have hcell : ∀ wr v', Nx w (.slice A l.length c) wr v' → ∀ i (hi : i < zs.length), ∃ b, a = some b ∧ wr.cell? (b.add i) = some (.int .i64 zs[i]) := fun wr v' hn i hi =>
    (hx.keep hn.1 hfar).at_ i hi
  have H := Lib.hid (And.intro hO (And.intro hm (Nx.refl w (.slice A l.length c))))
  have HC := Lib.hid hcell
  have hzl : zs.length ≤ 381300 := by omega
  clear hO hm hcell hx hfar
  go_enter Tryd.func25, Tryd.ntmps25
  go_wp2_with (fail)
  go_loopw [0, 9] (fun v0 v9 wr => ∃ (i : Nat) (acc : Bs) (B : Option Addr) (cb : Nat), v0 = .slice B acc.length cb ∧ v9 = .int .i64 (i : Int) ∧ i ≤ zs.length ∧ Hid (acc = l ++ pnz (zs.take i)) ∧ Hid (Ob w0 wr (.slice B acc.length cb) acc ∧ Mod (fun _ => False) w0 wr ∧ Nx w (.slice A l.length c) wr (.slice B acc.length cb))) (fun _ i _ => zs.length - (iOf i).toNat)
  case atStart => exact ⟨0, l, A, c, rfl, rfl, by omega, Lib.hid (by simp [pnz]), H⟩
  case round =>
    obtain ⟨i, acc, B, cb, rfl, rfl, hi, hE, hO⟩ := hrel
    by_cases hlt : i < zs.length
    · have q1 : (i : Int) < (zs.length : Int) := by omega
      obtain ⟨b, rfl, hc⟩ := HC.out _ _ hO.out.2.2 i hlt
      obtain ⟨z, hzi⟩ : ∃ z, zs[i] = z := ⟨_, rfl⟩
      rw [hzi] at hc
      have hzz := hz z (by rw [← hzi]; exact List.getElem_mem _)
      have hal : acc.length ≤ 4194304 := by
        have h1 := hE.out
        have h2 := pnz_len (zs.take i)
        have h3 : (zs.take i).length ≤ zs.length := by rw [List.length_take]; omega
        rw [h1, List.length_append]
        omega
      have hv := var_any w0 (.slice B acc.length cb) acc z.toNat (by omega) hal wr hO.out.1 hO.out.2.1
      rw [show ((z.toNat : Nat) : Int) = z by omega] at hv
      have hE2 : Hid (acc ++ pn z.toNat = l ++ pnz (zs.take (i + 1))) := Lib.hid (by rw [pnz_snoc zs i hlt, hzi, hE.out, List.append_assoc])
      have HN := Lib.hid hO.out.2.2
      clear hE hO hzi hzz hal H HC
      go_wp2_with (fail)
      refine hv.mono ?_
      rintro e w2 ⟨v2, rfl, hO2, hm2, hn2⟩
      obtain ⟨B2, c2, rfl⟩ := hO2.val
      have HH := Lib.hid (And.intro hO2 (And.intro hm2 (HN.out.trans hn2)))
      clear hO2 hm2 hn2 hv hc
      go_wp2_with (fail)
      refine ⟨⟨i + 1, acc ++ pn z.toNat, B2, c2, by rw [List.length_append], by simp, by omega, hE2, HH⟩, ?_⟩
      simp only [iOf]
      omega
    · have q1 : ¬ (i : Int) < (zs.length : Int) := by omega
      have hE2 := hE.out
      rw [List.take_of_length_le (by omega)] at hE2
      have HE := Lib.hid hE2
      clear hE hE2 H HC
      go_wp2_with (fail)
      go_ret
      exact ⟨_, rfl, by rw [← HE.out]; exact hO.out.1, hO.out.2.1, hO.out.2.2⟩
end Go.Proofs.YtknaaaphdjdaoaaDoor
