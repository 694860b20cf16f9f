/-
  RunesLines' walk.
-/
import Derived.Test.YtokojeiiobhciaaDoorSh
import Derived.Test.YtokojeiiobhciaaDoorCat
namespace Go.Proofs.YtokojeiiobhciaaDoor
open Go.RowKit Mem
set_option linter.unusedVariables false
set_option linter.unusedSimpArgs false

theorem iaV_at (l : Bs) (j : Nat) (hj : j < l.length) (h1 : ∀ x ∈ l.take j, badV x = false) (h2 : badV l[j] = true) : iaV l = (j : Int) := by
  have h := tw_at (fun x => !badV x) l j (by omega) (fun i hi hij => by
    have : l[i] ∈ l.take j := by rw [List.mem_take_iff_getElem]; exact ⟨i, by omega, rfl⟩
    rw [h1 _ this]; rfl) (fun h => by rw [h2]; rfl)
  unfold iaV
  rw [if_neg, h.1]
  intro ha
  rw [List.all_eq_true] at ha
  have := ha l[j] (List.getElem_mem _)
  rw [h2] at this
  cases this
theorem iaV_none (l : Bs) (h1 : ∀ x ∈ l, badV x = false) : iaV l < 0 := by
  unfold iaV
  rw [if_pos (List.all_eq_true.2 fun x hx => by rw [h1 x hx]; rfl)]
  omega
theorem lnl_at (l : Bs) (j : Nat) (hj : j < l.length) (h1 : ∀ x ∈ l.take j, badV x = false) (h2 : badV l[j] = true) : lnl l = l.take j :: lnl (restB (l.drop j)) :=
  lnl_cut l (by intro e; rw [e] at hj; simp at hj) j (iaV_at l j hj h1 h2)
theorem bad_of (b : UInt8) (h : (b.toNat : Int) = 10 ∨ (b.toNat : Int) = 13) : badV b = true := by
  unfold badV
  rcases h with h | h
  · have : b = 10 := UInt8.toNat_inj.1 (by rw [show (10 : UInt8).toNat = 10 from rfl]; omega)
    rw [this]; rfl
  · have : b = 13 := UInt8.toNat_inj.1 (by rw [show (13 : UInt8).toNat = 13 from rfl]; omega)
    rw [this]; rfl
theorem good_of (b : UInt8) (h1 : (b.toNat : Int) ≠ 10) (h2 : (b.toNat : Int) ≠ 13) : badV b = false := by
  unfold badV
  rw [beq_false_of_ne (fun e => h2 (by rw [e]; rfl)), beq_false_of_ne (fun e => h1 (by rw [e]; rfl))]
  rfl
theorem restB_two (r : Bs) : restB (13 :: 10 :: r) = r := by unfold restB; rw [if_pos (by simp [List.isPrefixOf])]; rfl
theorem restB_one (b : UInt8) (r : Bs) (h : b ≠ 13 ∨ ∀ y t, r = y :: t → y ≠ 10) : restB (b :: r) = r := by
  unfold restB
  rw [if_neg]
  · rfl
  · intro hp
    cases r with
    | nil => simp [List.isPrefixOf] at hp
    | cons y t =>
      simp only [List.isPrefixOf, Bool.and_eq_true, beq_iff_eq] at hp
      rcases h with h | h
      · exact h hp.1.symm
      · exact h y t rfl hp.2.1.symm
def iOf' : Value → Int | .int _ n => n | _ => 0
set_option maxRecDepth 100000 in
set_option maxHeartbeats 3200000 in
theorem rlines_any (s : Bs) (hs : s.length ≤ 4294967280) (w : World) :
    Calls Tryd.prog 8 #[.string (sv s)] w fun e w' => ∃ v, e = .returned v ∧ w'.ownsRow w.heap.size 9 1 v (lnl s).length (strs (lnl s)) ∧ Mod (fun _ => False) w w' := by
  have H0 := Lib.hid (World.ownsRow_nil w w.heap.size 9 1)
  have hsz : ((sv s).size : Int) = (s.length : Int) := rfl
  go_enter Tryd.func8, Tryd.ntmps8
  go_wp2_with (fail)
  go_loopw [3, 4, 5] (fun v3 v4 v5 wr => ∃ (f i : Nat) (pre : List Bs) (A : Option Addr) (k c : Nat), v3 = .slice A k c ∧ v4 = .int .i64 (f : Int) ∧ v5 = .int .i64 (i : Int) ∧ f ≤ i ∧ i ≤ s.length ∧ k ≤ f ∧ Hid (wr.ownsRow w.heap.size 9 1 (.slice A k c) k (strs pre)) ∧ Hid (pre.length = k) ∧ Hid (pre ++ lnl (s.drop f) = lnl s) ∧ Hid (∀ x ∈ (s.drop f).take (i - f), badV x = false) ∧ Hid (Mod (fun _ => False) w wr)) (fun _ _ i _ => s.length - (iOf' i).toNat)
  case atStart => exact ⟨0, 0, [], none, 0, 0, rfl, rfl, rfl, by omega, by omega, by omega, H0, Lib.hid rfl, Lib.hid rfl, Lib.hid (by simp), Lib.hid (Mod.refl _ _)⟩
  case round =>
    obtain ⟨f, i, pre, A, k, c, rfl, rfl, rfl, hfi, his, hkf, hown, hpk, hE, hG, hm⟩ := hrel
    by_cases hlt : i < s.length
    · have q1 : (i : Int) < (s.length : Int) := by omega
      obtain ⟨b, hb⟩ : ∃ b, s[i] = b := ⟨_, rfl⟩
      obtain ⟨z, hz⟩ : ∃ z : Int, (b.toNat : Int) = z := ⟨_, rfl⟩
      have hget : ∀ h, (((sv s)[i]'h).toNat : Int) = z := fun _ => by rw [← hz, ← hb]; rfl
      have hdi : s.drop i = b :: s.drop (i + 1) := by rw [List.drop_eq_getElem_cons hlt, hb]
      have hdl : i - f < (s.drop f).length := by rw [List.length_drop]; omega
      have hdb : (s.drop f)[i - f] = b := by rw [List.getElem_drop, ← hb]; congr 1; omega
      have hdd : (s.drop f).drop (i - f) = s.drop i := by rw [List.drop_drop]; congr 1; omega
      by_cases hbad : z = 10 ∨ z = 13
      · have hcut := lnl_at (s.drop f) (i - f) hdl hG.out (by rw [hdb]; exact bad_of b (by rw [hz]; exact hbad))
        rw [hdd, hdi] at hcut
        obtain ⟨X, hX⟩ : ∃ X, (s.drop f).take (i - f) = X := ⟨_, rfl⟩
        rw [hX] at hcut
        have hx1 : (sv s).extract f i = sv X := by rw [sv_ext, ← hX, List.drop_take]
        obtain ⟨A2, c2, w3, hr, ho3, hmA, _, _⟩ := el_s.app1 w.heap.size k (.slice A k c) (strs pre) (wr.alloc (.cells #[.string (sv X)] 9)) (hown.out.alloc _) wr.heap.size #[.string (sv X)] 1 (Blk.new _ _ _) rfl (by unfold maxLen; omega) (by omega) (by simp; rfl) (by have := hm.out.size; simp; omega)
        have hMA : Mod (fun _ => False) w w3 := (hm.out.alloc _).trans hmA (fun i hi => .inr (own_lt hown.out hi).1)
        have hss : strs pre ++ #[Value.string (sv X)].toList = strs (pre ++ [X]) := by rw [strs_app]; rfl
        have how2 : Hid (w3.ownsRow w.heap.size 9 1 (.slice A2 (k + 1) c2) (k + 1) (strs (pre ++ [X]))) := Lib.hid (by rw [← hss]; exact ho3)
        have hpk2 : Hid ((pre ++ [X]).length = k + 1) := Lib.hid (by rw [List.length_append, hpk.out]; rfl)
        have hE2 : ∀ g, restB (b :: s.drop (i + 1)) = s.drop g → Hid ((pre ++ [X]) ++ lnl (s.drop g) = lnl s) := fun g hg => Lib.hid (by have := hE.out; rw [hcut, hg] at this; rw [← this]; simp)
        have HE2 := Lib.hid hE2
        have HM := Lib.hid hMA
        have hempty : ∀ g : Nat, Hid (∀ x ∈ (s.drop g).take (g - g), badV x = false) := fun g => Lib.hid (by simp)
        clear hown hpk hE hG hm hcut hdb hdd hdi hX hss ho3 hmA hMA hE2 hdl
        rcases hbad with h10 | h13
        · have hb13 : b ≠ 13 := by intro e; rw [e] at hz; rw [show (13 : UInt8).toNat = 13 from rfl] at hz; omega
          have HE3 := HE2.out (i + 1) (restB_one b _ (.inl hb13))
          subst h10
          clear HE2 hz hb hb13
          go_wp2_with (at_builtin; refine wpList_append_run rfl _ _ 23 23 rfl _ _ rfl rfl hr ?_)
          refine ⟨⟨i + 1, i + 1, pre ++ [X], A2, k + 1, c2, rfl, by simp, by simp, by omega, by omega, by omega, how2, hpk2, HE3, hempty _, HM⟩, ?_⟩
          show s.length - ((i : Int) + 1).toNat < s.length - (i : Int).toNat
          omega
        · have hb13 : b = 13 := UInt8.toNat_inj.1 (by rw [show (13 : UInt8).toNat = 13 from rfl]; omega)
          subst h13
          by_cases h2 : i + 1 < s.length
          · obtain ⟨y, hy⟩ : ∃ y, s[i + 1] = y := ⟨_, rfl⟩
            obtain ⟨u, hu⟩ : ∃ u : Int, (y.toNat : Int) = u := ⟨_, rfl⟩
            have hgety : ∀ h, (((sv s)[i + 1]'h).toNat : Int) = u := fun _ => by rw [← hu, ← hy]; rfl
            have q2 : (i : Int) + 1 < (s.length : Int) := by omega
            have hdy : s.drop (i + 1) = y :: s.drop (i + 2) := by rw [List.drop_eq_getElem_cons h2, hy]
            by_cases h10 : u = 10
            · have hy10 : y = 10 := UInt8.toNat_inj.1 (by rw [show (10 : UInt8).toNat = 10 from rfl]; omega)
              have HE3 := HE2.out (i + 2) (by rw [hb13, hdy, hy10]; exact restB_two _)
              subst h10
              clear HE2 hz hb hb13 hu hy hdy hy10
              go_wp2_with (at_builtin; refine wpList_append_run rfl _ _ 23 23 rfl _ _ rfl rfl hr ?_)
              refine ⟨⟨i + 2, i + 2, pre ++ [X], A2, k + 1, c2, rfl, by simp; omega, by simp; omega, by omega, by omega, by omega, how2, hpk2, HE3, hempty _, HM⟩, ?_⟩
              show s.length - ((i : Int) + 1 + 1).toNat < s.length - (i : Int).toNat
              omega
            · have hyn : y ≠ 10 := by intro e; rw [e, show (10 : UInt8).toNat = 10 from rfl] at hu; omega
              have HE3 := HE2.out (i + 1) (restB_one b _ (.inr (by intro a t e; rw [hdy] at e; injection e with e1 e2; rw [← e1]; exact hyn)))
              have hu10 : (u == 10) = false := by simpa using h10
              clear HE2 hz hb hb13 hu hy hdy hyn
              go_wp2_with (at_builtin; refine wpList_append_run rfl _ _ 23 23 rfl _ _ rfl rfl hr ?_)
              refine ⟨⟨i + 1, i + 1, pre ++ [X], A2, k + 1, c2, rfl, by simp, by simp, by omega, by omega, by omega, how2, hpk2, HE3, hempty _, HM⟩, ?_⟩
              show s.length - ((i : Int) + 1).toNat < s.length - (i : Int).toNat
              omega
          · have hl1 : s.drop (i + 1) = [] := List.drop_eq_nil_of_le (by omega)
            have q2 : ¬ (i : Int) + 1 < (s.length : Int) := by omega
            have HE3 := HE2.out (i + 1) (restB_one b _ (.inr (by intro a t e; rw [hl1] at e; cases e)))
            clear HE2 hz hb hb13 hl1
            go_wp2_with (at_builtin; refine wpList_append_run rfl _ _ 23 23 rfl _ _ rfl rfl hr ?_)
            refine ⟨⟨i + 1, i + 1, pre ++ [X], A2, k + 1, c2, rfl, by simp, by simp, by omega, by omega, by omega, how2, hpk2, HE3, hempty _, HM⟩, ?_⟩
            show s.length - ((i : Int) + 1).toNat < s.length - (i : Int).toNat
            omega
      · have hgb : badV b = false := good_of b (by rw [hz]; intro e; exact hbad (.inl e)) (by rw [hz]; intro e; exact hbad (.inr e))
        have z1 : (z != 10) = true := by have : ¬ z = 10 := fun e => hbad (.inl e); simpa using this
        have z2 : (z != 13) = true := by have : ¬ z = 13 := fun e => hbad (.inr e); simpa using this
        have HG2 : Hid (∀ x ∈ (s.drop f).take (i + 1 - f), badV x = false) := Lib.hid (by
          intro x hx
          rw [show i + 1 - f = (i - f) + 1 by omega, List.take_add_one, List.getElem?_eq_getElem hdl, hdb] at hx
          rcases List.mem_append.1 hx with h | h
          · exact hG.out x h
          · have : x = b := by simpa using h
            rw [this]; exact hgb)
        clear hz hb hdi hdb hdd hG hbad
        go_wp2_with (fail)
        refine ⟨⟨f, i + 1, pre, A, k, c, rfl, rfl, by simp, by omega, by omega, by omega, hown, hpk, hE, HG2, hm⟩, ?_⟩
        show s.length - ((i : Int) + 1).toNat < s.length - (i : Int).toNat
        omega
    · have q1 : ¬ (i : Int) < (s.length : Int) := by omega
      have hil : i = s.length := by omega
      by_cases hf : f < s.length
      · have qf : (f : Int) < (s.length : Int) := by omega
        have hx1 : (sv s).extract f (sv s).size = sv (s.drop f) := by rw [sv_size, sv_ext, List.take_length]
        have hx2 : (sv s).extract f s.length = sv (s.drop f) := by rw [sv_ext, List.take_length]
        have hlast := lnl_last (s.drop f) (by intro e; have := congrArg List.length e; rw [List.length_drop] at this; simp at this; omega) (iaV_none _ (fun x hx => hG.out x (by rw [List.take_of_length_le (by rw [List.length_drop]; omega)]; exact hx)))
        obtain ⟨X, hX⟩ : ∃ X, s.drop f = X := ⟨_, rfl⟩
        rw [hX] at hlast hx1 hx2
        obtain ⟨A2, c2, w3, hr, ho3, hmA, _, _⟩ := el_s.app1 w.heap.size k (.slice A k c) (strs pre) (wr.alloc (.cells #[.string (sv X)] 9)) (hown.out.alloc _) wr.heap.size #[.string (sv X)] 1 (Blk.new _ _ _) rfl (by unfold maxLen; omega) (by omega) (by simp; rfl) (by have := hm.out.size; simp; omega)
        have hMA : Mod (fun _ => False) w w3 := (hm.out.alloc _).trans hmA (fun i hi => .inr (own_lt hown.out hi).1)
        have e : pre ++ [X] = lnl s := by have := hE.out; rwa [hX, hlast] at this
        have e2 : strs pre ++ #[Value.string (sv X)].toList = strs (lnl s) := by rw [← e, strs_app]; rfl
        have e3 : k + 1 = (lnl s).length := by rw [← e, List.length_append, hpk.out]; rfl
        rw [e2, e3] at ho3
        rw [e3] at hr
        have HH := Lib.hid (And.intro ho3 hMA)
        clear hown hpk hE hG hm hX e e2 e3 ho3 hMA hmA hlast
        go_wp2_with (at_builtin; refine wpList_append_run rfl _ _ 23 23 rfl _ _ rfl rfl hr ?_)
        go_ret
        exact ⟨_, rfl, HH.out.1, HH.out.2⟩
      · have qf : ¬ (f : Int) < (s.length : Int) := by omega
        have e : pre = lnl s := by have := hE.out; rwa [List.drop_eq_nil_of_le (by omega), lnl_nil, List.append_nil] at this
        have HH := Lib.hid (And.intro (And.intro hown.out hpk.out) (And.intro hm.out e))
        clear hown hpk hE hG hm e
        go_wp2_with (fail)
        go_ret
        obtain ⟨⟨h1, h2⟩, h3, h4⟩ := HH.out
        exact ⟨_, rfl, by rw [← h4, h2]; exact h1, h3⟩
end Go.Proofs.YtokojeiiobhciaaDoor
