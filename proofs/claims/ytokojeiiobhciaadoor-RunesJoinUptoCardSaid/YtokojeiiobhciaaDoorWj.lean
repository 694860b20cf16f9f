/-
  RunesJoin's walk.
-/
import Derived.Test.YtokojeiiobhciaaDoorWn
import Derived.Test.YtokojeiiobhciaaDoorArgs
namespace Go.Proofs.YtokojeiiobhciaaDoor
open Go.RowKit Mem
set_option linter.unusedVariables false
set_option linter.unusedSimpArgs false

/-- A text without ends. -/
def good (b : Bs) : Bs := b.filter fun x => !badV x
theorem good_all (b : Bs) : ∀ x ∈ good b, badV x = false := by
  intro x hx
  have := (List.mem_filter.1 hx).2
  simpa using this
/-- An end that a text has behind it: p: it is a carriage return alone. -/
def EndOf (e : Bs) (p : Bool) : Prop := (e = [10] ∧ p = false) ∨ (e = [13, 10] ∧ p = false) ∨ (e = [13] ∧ p = true)
def noLf (X : Bs) : Prop := ∀ y t, X = y :: t → y ≠ 10
theorem lnl_end (t e : Bs) (p : Bool) (he : EndOf e p) (ht : ∀ x ∈ t, badV x = false) (X : Bs) (hX : p = true → noLf X) : lnl (t ++ (e ++ X)) = t :: lnl X := by
  have key : ∀ b r, e ++ X = b :: r → badV b = true → restB (b :: r) = X → lnl (t ++ (e ++ X)) = t :: lnl X := by
    intro b r hb hbad hr
    have h := lnl_at (t ++ (e ++ X)) t.length (by rw [List.length_append, hb]; simp) (by rw [List.take_left]; exact ht) (by rw [List.getElem_append_right (by omega)]; simp only [Nat.sub_self, hb, List.getElem_cons_zero]; exact hbad)
    rw [List.take_left, List.drop_left, hb, hr] at h
    rw [← hb] at h
    exact h
  rcases he with ⟨rfl, rfl⟩ | ⟨rfl, rfl⟩ | ⟨rfl, rfl⟩
  · exact key 10 X rfl (by decide) (restB_one 10 X (.inl (by decide)))
  · exact key 13 (10 :: X) rfl (by decide) (restB_two X)
  · exact key 13 X rfl (by decide) (restB_one 13 X (.inr (hX rfl)))
/-- What has been put together: these lines, whatever comes behind. -/
def Joined (S : Bs) (W : List Bs) (p : Bool) : Prop := ∀ X, (p = true → noLf X) → lnl (S ++ X) = W ++ lnl X
theorem Joined.start : Joined [] [] false := fun X _ => rfl
theorem Joined.step {S : Bs} {W : List Bs} {p : Bool} (h : Joined S W p) (t e : Bs) (q : Bool) (he : EndOf e q) (ht : ∀ x ∈ t, badV x = false) (hp : p = true → ∃ y r, t = y :: r) : Joined ((S ++ t) ++ e) (W ++ [t]) q := by
  intro X hX
  have h1 := h (t ++ (e ++ X)) (fun hp' y r hy => by
    obtain ⟨y2, r2, rfl⟩ := hp hp'
    have hh := ht y2 (by simp)
    injection hy with h1 h2
    intro e10
    rw [← h1] at e10
    rw [e10] at hh
    exact absurd hh (by decide))
  rw [List.append_assoc, List.append_assoc, h1, lnl_end t e q he ht X hX, List.append_assoc]
  rfl
theorem Joined.fin {S : Bs} {W : List Bs} {p : Bool} (h : Joined S W p) : lnl S = W := by
  have := h [] (fun _ y t e => by cases e)
  rwa [List.append_nil, lnl_nil, List.append_nil] at this
/-- One of the texts that came in. -/
def txt (ss : List ByteArray) (i : Nat) : Bs := (ss.getD i ByteArray.empty).data.toList
theorem strs_cell {w w' : World} {a : Option Addr} {len cap : Nat} {ss : List ByteArray} (h : IsStrs w a len cap ss) (hm : Mod (fun _ => False) w w') (i : Nat) (hi : i < len) :
    ∃ x, a = some x ∧ len ≤ cap ∧ cap ≤ maxLen ∧ w'.cell? (x.add i) = some (.string (sv (txt ss i))) := by
  rcases h with ⟨_, h, _⟩ | ⟨x, rfl, hl, hm2, hz, hc, hw⟩
  · omega
  · have h1 := hc i (by omega)
    refine ⟨x, rfl, hl, hm2, ?_⟩
    rw [show sv (txt ss i) = ss.getD i ByteArray.empty by unfold txt; generalize ss.getD i ByteArray.empty = z; cases z; simp [sv]]
    exact cell_keep hm h1 (fun h => h)
theorem txt_len {w : World} {a : Option Addr} {len cap : Nat} {ss : List ByteArray} (h : IsStrs w a len cap ss) (i : Nat) (hi : i < len) : (txt ss i).length ≤ maxLen := by
  rcases h with ⟨_, h, _⟩ | ⟨x, rfl, hl, hm2, hz, hc, hw⟩
  · omega
  · have := hw (ss.getD i ByteArray.empty) (by rw [List.getD_eq_getElem?_getD, List.getElem?_eq_getElem (by omega)]; exact List.getElem_mem _)
    unfold txt
    rw [Array.length_toList]
    exact this
theorem and3 (x : Int) : ∃ R : Nat, Go.bits .and .i64 x 3 = (R : Int) ∧ R ≤ 3 := by
  unfold Go.bits
  simp only [BitVec.toNat_and]
  have h : ((BitVec.ofInt (IntKind.bits .i64) x).toNat &&& (BitVec.ofInt (IntKind.bits .i64) 3).toNat) ≤ 3 := Nat.and_le_right
  generalize ((BitVec.ofInt (IntKind.bits .i64) x).toNat &&& (BitVec.ofInt (IntKind.bits .i64) 3).toNat) = m at h
  rw [IntKind.wrap_i64]
  exact ⟨m, by omega, h⟩
theorem sv_plus (a b : Bs) : sv a ++ sv b = sv (a ++ b) := by
  apply ByteArray.ext
  simp [sv]
theorem good_len (b : Bs) (k : Nat) : (good (b.take k)).length ≤ k := by
  have h1 := List.length_filter_le (fun x => !badV x) (b.take k)
  have h2 : (b.take k).length ≤ k := by rw [List.length_take]; omega
  unfold good
  omega
theorem good_bad (b : Bs) (k : Nat) (h : k < b.length) (hb : badV b[k] = true) : good (b.take (k + 1)) = good (b.take k) := by
  unfold good
  rw [List.take_add_one, List.getElem?_eq_getElem h, List.filter_append]
  simp [hb]
theorem good_good (b : Bs) (k : Nat) (h : k < b.length) (hb : badV b[k] = false) : good (b.take (k + 1)) = good (b.take k) ++ [b[k]] := by
  unfold good
  rw [List.take_add_one, List.getElem?_eq_getElem h, List.filter_append]
  simp [hb]
theorem good_head (b : Bs) (k : Nat) (hk : 1 ≤ k) (h : ∃ y r, b = y :: r ∧ badV y = false) : ∃ y r, good (b.take k) = y :: r := by
  obtain ⟨y, r, rfl, hy⟩ := h
  obtain ⟨j, rfl⟩ : ∃ j, k = j + 1 := ⟨k - 1, by omega⟩
  refine ⟨y, good (r.take j), ?_⟩
  unfold good
  rw [List.take_succ_cons, List.filter_cons, if_pos (by rw [hy]; rfl)]
set_option maxRecDepth 100000 in
set_option maxHeartbeats 3200000 in
theorem runesJoin_walk (A : Option Addr) (n c : Nat) (ss : List ByteArray) (D : Option Addr) (m d : Nat) (zs : List Int) (w : World) (hin : IsStrs w A n c ss) (hin2 : IsInts .i64 w D m d zs) (hT : Lib.Utf8Tabs 1 2 w) :
    Calls Tryd.prog 4 #[.slice A n c, .slice D m d] w fun e w' => e = .returned (.bool true) ∧ Mod (fun _ => False) w w' := by
  go_enter Tryd.func4, Tryd.ntmps4
  go_wp2_with (fail)
  refine (shown_any w hT).mono ?_
  rintro e w1 ⟨rfl, hm1⟩
  have HM := Lib.hid hm1
  clear hm1
  go_wp2_with (fail)
  go_loopw [6, 7, 8] (fun v6 v7 v8 wr => ∃ (i : Nat) (W : List Bs) (S : Bs) (p : Bool) (B : Option Addr) (cb : Nat), v6 = .slice B i cb ∧ v7 = .string (sv S) ∧ v8 = .int .i64 (i : Int) ∧ i ≤ 50 ∧ i ≤ n ∧ i ≤ m ∧ S.length ≤ 202 * i ∧ Hid (wr.ownsRow w.heap.size 9 1 (.slice B i cb) i (strs W)) ∧ Hid (W.length = i) ∧ Hid (Joined S W p) ∧ Hid (p = true → ∃ y r, txt ss i = y :: r ∧ badV y = false) ∧ Hid (Mod (fun _ => False) w wr)) (fun _ _ i _ => 50 - (iOf' i).toNat)
  case atStart => exact ⟨0, [], [], false, none, 0, rfl, rfl, rfl, by omega, by omega, by omega, by simp, Lib.hid (World.ownsRow_nil w1 w.heap.size 9 1), Lib.hid rfl, Lib.hid Joined.start, Lib.hid (fun h => by cases h), HM⟩
  case round =>
    obtain ⟨i, W, S, p, B, cb, rfl, rfl, rfl, hi5, hin', him', hSl, hown, hWl, hJ, hP, hm⟩ := hrel
    obtain ⟨w8, rfl⟩ : ∃ w8, w8 = wr := ⟨_, rfl⟩
    by_cases hlt : i < n ∧ i < m ∧ i < 50
    · obtain ⟨l1, l2, l3⟩ := hlt
      have q1 : (i : Int) < (n : Int) := by omega
      have q2 : (i : Int) < (m : Int) := by omega
      have q3 : (i : Int) < 50 := by omega
      obtain ⟨x, rfl, hnc, hcm, hcell⟩ := strs_cell hin hm.out i l1
      have hbm := txt_len hin i l1
      obtain ⟨x2, z, rfl, hnc2, hcm2, hcell2, hwf⟩ := hin2.at_ hm.out i l2
      have hb2 : (x2.add i).block < w.heap.size := by
        obtain ⟨x', z', hx', _, _, hc', _⟩ := hin2.at_ (Mod.refl _ w) i l2
        injection hx' with hx'
        rw [hx']
        exact World.block_lt_of_cell? _ _ hc'
      obtain ⟨b, hb⟩ : ∃ b, txt ss i = b := ⟨_, rfl⟩
      rw [hb] at hcell hbm
      have HP := Lib.hid hP.out
      rw [hb] at HP
      have hbz : ((sv b).size : Int) = (b.length : Int) := rfl
      have HIN := Lib.hid (And.intro hin (And.intro hin2 HM))
      clear hP hin hin2 HM hb hwf
      go_upto_block 2 with (fail)
      go_cut [9] (fun v9 wx => ∃ T : Bs, v9 = .string (sv T) ∧ T.length ≤ 200 ∧ Hid (∀ x ∈ T, badV x = false) ∧ Hid (p = true → ∃ y r, T = y :: r) ∧ wx = w8)
      case first =>
        go_wp2_with (fail)
        go_loopw [9, 10] (fun v9 v10 wx => ∃ k : Nat, v9 = .string (sv (good (b.take k))) ∧ v10 = .int .i64 (k : Int) ∧ k ≤ b.length ∧ k ≤ 200 ∧ wx = w8) (fun _ i _ => 200 - (iOf' i).toNat)
        case atStart => exact ⟨0, rfl, rfl, by omega, by omega, rfl⟩
        case round =>
          obtain ⟨k, rfl, rfl, hkb, hk2, rfl⟩ := hrel
          have hgl := good_len b k
          by_cases hk : k < b.length ∧ k < 200
          · obtain ⟨k1, k2⟩ := hk
            have r1 : (k : Int) < (b.length : Int) := by omega
            have r2 : (k : Int) < 200 := by omega
            obtain ⟨y, hy⟩ : ∃ y, b[k] = y := ⟨_, rfl⟩
            obtain ⟨u, hu⟩ : ∃ u : Int, (y.toNat : Int) = u := ⟨_, rfl⟩
            have hget : ∀ h, (((sv b)[k]'h).toNat : Int) = u := fun _ => by rw [← hu, ← hy]; rfl
            have hx1 : (sv b).extract k (k + 1) = sv [y] := by
              rw [sv_ext, ← hy]
              congr 1
              rw [List.take_add_one, List.getElem?_eq_getElem k1, List.drop_append, List.drop_eq_nil_of_le (by rw [List.length_take]; omega), List.length_take, Nat.min_eq_left (by omega), Nat.sub_self]
              rfl
            by_cases hbad : u = 10 ∨ u = 13
            · have hg := good_bad b k k1 (by rw [hy]; exact bad_of y (by rw [hu]; exact hbad))
              have HG := Lib.hid hg
              clear hg hu hy
              rcases hbad with rfl | rfl
              all_goals
                go_wp2_with (fail)
                refine ⟨⟨k + 1, by rw [HG.out], by simp, by omega, by omega, trivial⟩, ?_⟩
                show 200 - ((k : Int) + 1).toNat < 200 - (k : Int).toNat
                omega
            · have z1 : (u != 10) = true := by have : ¬ u = 10 := fun e => hbad (.inl e); simpa using this
              have z2 : (u != 13) = true := by have : ¬ u = 13 := fun e => hbad (.inr e); simpa using this
              have hg := good_good b k k1 (by rw [hy]; exact good_of y (by rw [hu]; intro e; exact hbad (.inl e)) (by rw [hu]; intro e; exact hbad (.inr e)))
              rw [hy] at hg
              obtain ⟨G, hG⟩ : ∃ G, good (b.take k) = G := ⟨_, rfl⟩
              obtain ⟨H, hH⟩ : ∃ H, G ++ [y] = H := ⟨_, rfl⟩
              have c1 : sv G ++ sv [y] = sv H := by rw [← hH]; exact sv_plus G [y]
              rw [hG] at hgl
              have s1 : ((sv G).size : Int) ≤ 8388608 := by rw [sv_size]; omega
              have s2 : ((sv [y]).size : Int) ≤ 8388608 := by rw [sv_size]; simp
              rw [hG, hH] at hg
              have HG := Lib.hid hg
              simp only [hG]
              clear hg hu hy hG hH hbad
              go_wp2_with (fail)
              refine ⟨⟨k + 1, by rw [HG.out], by simp, by omega, by omega, trivial⟩, ?_⟩
              show 200 - ((k : Int) + 1).toNat < 200 - (k : Int).toNat
              omega
          · have r1 : (k : Int) < (b.length : Int) → ¬ (k : Int) < 200 := by omega
            have HPT : Hid (p = true → ∃ y r, good (b.take k) = y :: r) := Lib.hid (fun h => good_head b k (by
              obtain ⟨y, r, hyr, _⟩ := HP.out h
              rw [hyr] at hk
              simp only [List.length_cons] at hk
              omega) (HP.out h))
            have hTg := Lib.hid (good_all (b.take k))
            go_wp2_with (fail)
            all_goals
              go_meet
              case rel => exact ⟨good (b.take k), rfl, by omega, hTg, HPT, rfl⟩
      case rest =>
        obtain ⟨T, rfl, hTl, hTg0, HPT, rfl⟩ := hcut
        have hTg := hTg0.out
        obtain ⟨R, hR, hR3⟩ := and3 z
        obtain ⟨ST, hST⟩ : ∃ ST, S ++ T = ST := ⟨_, rfl⟩
        have c1 : sv S ++ sv T = sv ST := by rw [← hST]; exact sv_plus S T
        have hSTl : ST.length ≤ 202 * i + 200 := by rw [← hST, List.length_append]; omega
        obtain ⟨U1, hU1⟩ : ∃ U, ST ++ [10] = U := ⟨_, rfl⟩
        obtain ⟨U2, hU2⟩ : ∃ U, ST ++ [13, 10] = U := ⟨_, rfl⟩
        obtain ⟨U3, hU3⟩ : ∃ U, ST ++ [13] = U := ⟨_, rfl⟩
        have c2 : sv ST ++ (⟨#[10]⟩ : ByteArray) = sv U1 := by rw [← hU1]; exact sv_plus ST [10]
        have c3 : sv ST ++ (⟨#[13, 10]⟩ : ByteArray) = sv U2 := by rw [← hU2]; exact sv_plus ST [13, 10]
        have c4 : sv ST ++ (⟨#[13]⟩ : ByteArray) = sv U3 := by rw [← hU3]; exact sv_plus ST [13]
        have HL : Hid (U1.length ≤ 202 * (i + 1) ∧ U2.length ≤ 202 * (i + 1) ∧ U3.length ≤ 202 * (i + 1)) := Lib.hid (by rw [← hU1, ← hU2, ← hU3]; simp only [List.length_append, List.length_cons, List.length_nil]; omega)
        have s1 : ((sv S).size : Int) ≤ 8388608 := by rw [sv_size]; omega
        have s2 : ((sv T).size : Int) ≤ 8388608 := by rw [sv_size]; omega
        have s3 : ((sv ST).size : Int) ≤ 8388608 := by rw [sv_size]; omega
        have HJ1 : Hid (Joined U1 (W ++ [T]) false) := Lib.hid (by rw [← hU1, ← hST]; exact hJ.out.step T [10] false (.inl ⟨rfl, rfl⟩) hTg HPT.out)
        have HJ2 : Hid (Joined U2 (W ++ [T]) false) := Lib.hid (by rw [← hU2, ← hST]; exact hJ.out.step T [13, 10] false (.inr (.inl ⟨rfl, rfl⟩)) hTg HPT.out)
        have HJ3 : Hid (Joined U3 (W ++ [T]) true) := Lib.hid (by rw [← hU3, ← hST]; exact hJ.out.step T [13] true (.inr (.inr ⟨rfl, rfl⟩)) hTg HPT.out)
        obtain ⟨A2, c5, w3, hr, ho3, hmA, _, _⟩ := el_s.app1 w.heap.size i (.slice B i cb) (strs W) (wc.alloc (.cells #[.string (sv T)] 9)) (hown.out.alloc _) wc.heap.size #[.string (sv T)] 1 (Blk.new _ _ _) rfl (by unfold maxLen; omega) (by omega) (by simp; rfl) (by have := hm.out.size; simp; omega)
        have hMA : Mod (fun _ => False) w w3 := (hm.out.alloc _).trans hmA (fun i hi => .inr (own_lt hown.out hi).1)
        have hss : strs W ++ #[Value.string (sv T)].toList = strs (W ++ [T]) := by rw [strs_app]; rfl
        have how2 : Hid (w3.ownsRow w.heap.size 9 1 (.slice A2 (i + 1) c5) (i + 1) (strs (W ++ [T]))) := Lib.hid (by rw [← hss]; exact ho3)
        have hWl2 : Hid ((W ++ [T]).length = i + 1) := Lib.hid (by rw [List.length_append, hWl.out]; rfl)
        have e2 : w3.cell? (x2.add i) = some (.int .i64 z) := cell_keep hmA (cell_keep ((Mod.refl (fun _ => False) wc).alloc _) hcell2 (fun h => h)) (fun h => by have := (own_lt hown.out h).1; omega)
        have HMA := Lib.hid hMA
        clear hown hWl hJ hm HP HPT hTg hST hU1 hU2 hU3 hss ho3 hmA hMA hcell hcell2
        have HB2 := Lib.hid hb2
        clear hb2
        by_cases hR1 : R = 1
        · subst hR1
          go_wp2_with (at_builtin; refine wpList_append_run rfl _ _ 23 23 rfl _ _ rfl rfl hr ?_)
          refine ⟨⟨i + 1, W ++ [T], U2, false, A2, c5, rfl, rfl, by simp, by omega, by omega, by omega, HL.out.2.1, how2, hWl2, HJ2, Lib.hid (fun h => by cases h), HMA⟩, ?_⟩
          show 50 - ((i : Int) + 1).toNat < 50 - (i : Int).toNat
          omega
        by_cases hR2 : R = 2
        · subst hR2
          clear hR1 hR3
          by_cases n1 : i + 1 < n
          · by_cases n2 : i + 1 < m
            · have z1 : (i : Int) + 1 < (n : Int) := by omega
              have z2 : (i : Int) + 1 < (m : Int) := by omega
              obtain ⟨x', hx', _, _, hcell'⟩ := strs_cell HIN.out.1 HMA.out (i + 1) n1
              injection hx' with hx'
              subst hx'
              obtain ⟨b', hb'⟩ : ∃ b', txt ss (i + 1) = b' := ⟨_, rfl⟩
              have hbm' := txt_len HIN.out.1 (i + 1) n1
              rw [hb'] at hcell' hbm'
              replace hcell' : w3.cell? { block := x.block, off := x.off + (i + 1) } = some (.string (sv b')) := hcell'
              cases b' with
              | nil =>
                have hne : (sv []).toList.isEmpty = true := by rw [sv_toList]; rfl
                go_wp2_with (at_builtin; refine wpList_append_run rfl _ _ 23 23 rfl _ _ rfl rfl hr ?_)
                refine ⟨⟨i + 1, W ++ [T], U1, false, A2, c5, rfl, rfl, by simp, by omega, by omega, by omega, HL.out.1, how2, hWl2, HJ1, Lib.hid (fun h => by cases h), HMA⟩, ?_⟩
                show 50 - ((i : Int) + 1).toNat < 50 - (i : Int).toNat
                omega
              | cons y r =>
                have hne : (sv (y :: r)).toList.isEmpty = false := by rw [sv_toList]; rfl
                obtain ⟨u, hu⟩ : ∃ u : Int, (y.toNat : Int) = u := ⟨_, rfl⟩
                have hget : ∀ h, (((sv (y :: r))[0]'h).toNat : Int) = u := fun _ => by rw [← hu]; rfl
                have hlz : ((sv (y :: r)).size : Int) = (r.length : Int) + 1 := by rw [sv_size]; simp
                have hl0 : (0 : Int) < (r.length : Int) + 1 := by omega
                by_cases h10 : u = 10
                · subst h10
                  clear hu hb'
                  go_wp2_with (at_builtin; refine wpList_append_run rfl _ _ 23 23 rfl _ _ rfl rfl hr ?_)
                  refine ⟨⟨i + 1, W ++ [T], U1, false, A2, c5, rfl, rfl, by simp, by omega, by omega, by omega, HL.out.1, how2, hWl2, HJ1, Lib.hid (fun h => by cases h), HMA⟩, ?_⟩
                  show 50 - ((i : Int) + 1).toNat < 50 - (i : Int).toNat
                  omega
                by_cases h13 : u = 13
                · subst h13
                  clear hu hb'
                  go_wp2_with (at_builtin; refine wpList_append_run rfl _ _ 23 23 rfl _ _ rfl rfl hr ?_)
                  refine ⟨⟨i + 1, W ++ [T], U1, false, A2, c5, rfl, rfl, by simp, by omega, by omega, by omega, HL.out.1, how2, hWl2, HJ1, Lib.hid (fun h => by cases h), HMA⟩, ?_⟩
                  show 50 - ((i : Int) + 1).toNat < 50 - (i : Int).toNat
                  omega
                have v1 : (u != 10) = true := by simpa using h10
                have v2 : (u != 13) = true := by simpa using h13
                have HPN : Hid (true = true → ∃ y r, txt ss (i + 1) = y :: r ∧ badV y = false) := Lib.hid (fun _ => ⟨y, r, hb', good_of y (by rw [hu]; exact h10) (by rw [hu]; exact h13)⟩)
                clear hu hb' h10 h13
                go_wp2_with (at_builtin; refine wpList_append_run rfl _ _ 23 23 rfl _ _ rfl rfl hr ?_)
                refine ⟨⟨i + 1, W ++ [T], U3, true, A2, c5, rfl, rfl, by simp, by omega, by omega, by omega, HL.out.2.2, how2, hWl2, HJ3, HPN, HMA⟩, ?_⟩
                show 50 - ((i : Int) + 1).toNat < 50 - (i : Int).toNat
                omega
            · have z1 : (i : Int) + 1 < (n : Int) := by omega
              have z2 : ¬ (i : Int) + 1 < (m : Int) := by omega
              go_wp2_with (at_builtin; refine wpList_append_run rfl _ _ 23 23 rfl _ _ rfl rfl hr ?_)
              refine ⟨⟨i + 1, W ++ [T], U1, false, A2, c5, rfl, rfl, by simp, by omega, by omega, by omega, HL.out.1, how2, hWl2, HJ1, Lib.hid (fun h => by cases h), HMA⟩, ?_⟩
              show 50 - ((i : Int) + 1).toNat < 50 - (i : Int).toNat
              omega
          · have z1 : ¬ (i : Int) + 1 < (n : Int) := by omega
            go_wp2_with (at_builtin; refine wpList_append_run rfl _ _ 23 23 rfl _ _ rfl rfl hr ?_)
            refine ⟨⟨i + 1, W ++ [T], U1, false, A2, c5, rfl, rfl, by simp, by omega, by omega, by omega, HL.out.1, how2, hWl2, HJ1, Lib.hid (fun h => by cases h), HMA⟩, ?_⟩
            show 50 - ((i : Int) + 1).toNat < 50 - (i : Int).toNat
            omega
        · have e1 : ((R : Int) == 1) = false := by simp; omega
          have e2' : ((R : Int) == 2) = false := by simp; omega
          go_wp2_with (at_builtin; refine wpList_append_run rfl _ _ 23 23 rfl _ _ rfl rfl hr ?_)
          refine ⟨⟨i + 1, W ++ [T], U1, false, A2, c5, rfl, rfl, by simp, by omega, by omega, by omega, HL.out.1, how2, hWl2, HJ1, Lib.hid (fun h => by cases h), HMA⟩, ?_⟩
          show 50 - ((i : Int) + 1).toNat < 50 - (i : Int).toNat
          omega
    · have hq : (i : Int) < (n : Int) → (i : Int) < (m : Int) → ¬ (i : Int) < 50 := by omega
      have hfin := hJ.out.fin
      have hpl := lines_any S (by omega) w8
      have hrow := hown.out
      rw [← hWl.out] at hrow
      obtain ⟨Aw, cw, hAw, hcw1, hcw2, hW⟩ := row_view hrow
      injection hAw with e1 e2 e3
      subst e1 e3
      rw [hfin] at hpl
      have hWi := hWl.out
      have HW := Lib.hid (And.intro hW hWi)
      clear hown hWl hJ hP hfin hrow hW hWi hcw1 hcw2 hlt e2 hin hin2
      go_wp2_with (fail)
      all_goals
        refine hpl.mono ?_
        rintro e w9 ⟨vl, rfl, hol, hm9⟩
        obtain ⟨Al, cl, rfl, hcl1, hcl2, hLr⟩ := row_view hol
        have hWi := HW.out.2
        have HM9 := Lib.hid (hm.out.trans hm9 (fun _ h => h.elim))
        have HV : Hid ((∀ (j : Nat) (x : Bs), W[j]? = some x → ∃ g cur, B = some ⟨g, 0, none⟩ ∧ Blk w9 g cur 9 ∧ cur[j]? = some (.string (sv x))) ∧ (∀ (j : Nat) (x : Bs), W[j]? = some x → ∃ g cur, Al = some ⟨g, 0, none⟩ ∧ Blk w9 g cur 9 ∧ cur[j]? = some (.string (sv x)))) := Lib.hid ⟨fun j x hj => by
            obtain ⟨g, cur, h1, _, h2, h3⟩ := HW.out.1 j x hj
            exact ⟨g, cur, h1, h2.mod hm9 (fun h => h), h3⟩, fun j x hj => by
            obtain ⟨g, cur, h1, _, h2, h3⟩ := hLr j x hj
            exact ⟨g, cur, h1, h2, h3⟩⟩
        clear hol hLr hm9 hm HW hcl1 hcl2 hpl
        rw [hWi]
        go_wp2_with (fail)
        go_loopw [13] (fun v13 wr => ∃ j : Nat, v13 = .int .i64 (j : Int) ∧ j ≤ i ∧ ∃ q, wr = w9.drewN q) (fun i' _ => 50 - (iOf' i').toNat)
        case atStart => exact ⟨0, rfl, by omega, 0, rfl⟩
        case round =>
          obtain ⟨j, rfl, hji, q, rfl⟩ := hrel
          by_cases hj : j < i
          · have q9 : (j : Int) < (i : Int) := by omega
            obtain ⟨x, hx⟩ : ∃ x, W[j]? = some x := ⟨_, List.getElem?_eq_getElem (show j < W.length by omega)⟩
            obtain ⟨gw, cuw, rfl, hBw, hcw⟩ := HV.out.1 j x hx
            obtain ⟨gl, cul, rfl, hBl, hcl⟩ := HV.out.2 j x hx
            have e1 : w9.cell? ⟨gw, j, none⟩ = some (.string (sv x)) := (hBw.cell j).trans hcw
            have e2 : w9.cell? ⟨gl, j, none⟩ = some (.string (sv x)) := (hBl.cell j).trans hcl
            have t1 : (sv x).toList = x := sv_toList x
            clear hBw hBl HV hWi
            go_wp2_with (fail)
            go_region
            go_wp2_with (fail)
            refine ⟨⟨j + 1, by simp, by omega, q + 1, rfl⟩, ?_⟩
            show 50 - ((j : Int) + 1).toNat < 50 - (j : Int).toNat
            omega
          · have q9 : ¬ (j : Int) < (i : Int) := by omega
            clear hWi
            go_wp2_with (fail)
            go_ret
            exact ⟨rfl, HM9.out.drewN q⟩
end Go.Proofs.YtokojeiiobhciaaDoor
