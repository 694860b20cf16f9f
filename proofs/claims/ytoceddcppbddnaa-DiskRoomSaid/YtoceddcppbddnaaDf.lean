/-
  Power fails.
-/
import Derived.Test.YtoceddcppbddnaaDe
namespace Go.Proofs.Ytoceddcppbddnaa
open Go.RowKit Mem Go.Maps
set_option linter.unusedVariables false
set_option linter.unusedSimpArgs false

def cutV (v : Value) (n : Nat) : Value := match v with | .slice a _ _ => .slice a n n | v => v
def newN (k i : Nat) (f : Fr) : Nat := f.n + (k / (i + 1)) % (f.b.length - f.n + 1)
def cutFr (k i : Nat) (f : Fr) : Fr := ⟨f.name, f.b.take (newN k i f), newN k i f, f.g, cutV f.v (newN k i f)⟩
def crashTo (k i : Nat) (L : List Fr) : List Fr := L.mapIdx (fun j f => if j < i then cutFr k j f else f)
theorem crash_zero (k : Nat) (L : List Fr) : crashTo k 0 L = L := by
  unfold crashTo
  apply List.ext_getElem?
  intro j
  rw [List.getElem?_mapIdx]
  cases h : L[j]? <;> simp
theorem crash_len (k i : Nat) (L : List Fr) : (crashTo k i L).length = L.length := by unfold crashTo; simp
theorem crash_step {k i : Nat} {L : List Fr} (hL : L.Pairwise Apt) (hi : i < L.length) : updL (crashTo k i L) (cutFr k i L[i]) = crashTo k (i + 1) L := by
  unfold updL crashTo
  apply List.ext_getElem?
  intro j
  rw [List.getElem?_map, List.getElem?_mapIdx, List.getElem?_mapIdx]
  cases h : L[j]? with
  | none => rfl
  | some y =>
    obtain ⟨hj, rfl⟩ := List.getElem?_eq_some_iff.1 h
    simp only [Option.map_some]
    congr 1
    have hg : (if j < i then cutFr k j L[j] else L[j]).g = L[j].g := by split <;> rfl
    rw [hg]
    have hg2 : (cutFr k i L[i]).g = L[i].g := rfl
    rw [hg2]
    by_cases hji : j = i
    · subst hji
      rw [if_pos rfl, if_pos (by omega)]
    · have : L[j].g ≠ L[i].g := by
        rcases Nat.lt_or_ge j i with h1 | h1
        · exact (List.pairwise_iff_getElem.1 hL j i hj hi h1).1
        · exact fun e => (List.pairwise_iff_getElem.1 hL i j hi hj (by omega)).1 e.symm
      rw [if_neg this]
      by_cases h2 : j < i
      · rw [if_pos h2, if_pos (by omega)]
      · rw [if_neg h2, if_neg (by omega)]
theorem crash_at {k i : Nat} {L : List Fr} (hi : i < L.length) : L[i] ∈ crashTo k i L := by
  have : (crashTo k i L)[i]? = some L[i] := by
    unfold crashTo
    rw [List.getElem?_mapIdx, List.getElem?_eq_getElem hi]
    simp
  exact List.mem_of_getElem? this
theorem fnd_at {w : World} {mb : Nat} {L : List Fr} (h : PM w mb L) {f : Fr} (hf : f ∈ L) : fndF L f.name = some f := by
  have hp := apart_names h
  unfold fndF
  induction L with
  | nil => cases hf
  | cons x L ih =>
    rw [List.find?_cons]
    rcases List.mem_cons.1 hf with rfl | hm
    · simp
    · have hp' := List.pairwise_cons.1 hp
      have : (x.name == f.name) = false := beq_eq_false_iff_ne.2 (hp'.1 f hm)
      rw [this]
      have aux : ∀ (L : List Fr), L.Pairwise (fun f f' => f.name ≠ f'.name) → f ∈ L → L.find? (fun y => y.name == f.name) = some f := by
        intro L
        induction L with
        | nil => intro _ h; cases h
        | cons y L ih =>
          intro hp hm
          have hp' := List.pairwise_cons.1 hp
          rw [List.find?_cons]
          rcases List.mem_cons.1 hm with rfl | hm
          · simp
          · have : (y.name == f.name) = false := beq_eq_false_iff_ne.2 (hp'.1 f hm)
            rw [this]
            exact ih hp'.2 hm
      exact aux L hp'.2 hm
/-- The disk's own cells written. -/
theorem At.cells {w w' : World} {d : Nat} {X X' : Dk} (h : At w d X) (hL : X'.L = X.L) (hmb : X'.mb = X.mb) (hb : Blk w' d (cellsOf X') 56) (hm : Mod (· = d) w w') (hfu : ∀ g a k, X'.fuse = some (g, a, k) → X.fuse = some (g, a, k) ∨ (Blk w' g #[.int .i64 a, .int .u64 (k : Int)] 67 ∧ (0 ≤ a ∧ a ≤ 9223372036854775807 ∧ k < 18446744073709551616) ∧ w.heap.size ≤ g)) (hr : 0 ≤ X'.room ∧ X'.room ≤ 9223372036854775807) (hfl : 0 ≤ X'.falls ∧ X'.falls ≤ 1000000) : Done w w' d X X' := by
  have hne : ∀ s cs T, Blk w s cs T → T ≠ 56 → ¬ s = d := fun s cs T hb2 hT e => Blk.ne hb2 h.disk hT e
  refine ⟨⟨hb, ?_, ?_, ?_, by rw [hL]; exact h.apart, hr, hfl, by rw [hL]; exact h.many⟩, hm.mono (fun s hs => .inl hs), ?_⟩
  · rw [hL, hmb]; exact h.map.mod hm (fun e => h.map.ne h.disk e)
  · intro g a k hk
    rcases hfu g a k hk with h1 | h1
    · have := h.fuse g a k h1
      exact ⟨this.1.mod hm (hne _ _ _ this.1 (by decide)), this.2⟩
    · exact ⟨h1.1, h1.2.1⟩
  · rw [hL]
    intro f hf
    refine (h.files f hf).mod hm (hne _ _ _ (h.files f hf).blk (by decide)) (fun x hx e => ?_)
    have e : x = d := e
    subst e
    exact ne_cells (U := 5) h.disk (h.files f hf).fb hx (by decide) rfl
  · rintro s (rfl | rfl | ⟨a, k, hk⟩ | ⟨x, hx, hs⟩)
    · exact .inl (.inl rfl)
    · exact .inl (.inr (.inl hmb))
    · rcases hfu _ _ _ hk with h1 | h1
      · exact .inl (.inr (.inr (.inl ⟨a, k, h1⟩)))
      · exact .inr h1.2.2
    · exact .inl (.inr (.inr (.inr ⟨x, by rw [← hL]; exact hx, hs⟩)))
def crashX (k : Nat) (X : Dk) : Dk := if X.off then X else ⟨X.room, crashTo k X.L.length X.L, true, none, X.falls + 1, X.mb⟩
theorem newN_le {f : Fr} {k i : Nat} (h : f.n ≤ f.b.length) : newN k i f ≤ f.b.length := by
  unfold newN
  have := Nat.mod_lt (k / (i + 1)) (show 0 < f.b.length - f.n + 1 by omega)
  omega
theorem quo_u64 {a b q : Nat} (ha : a < 18446744073709551616) (hq : a / b = q) : IntKind.u64.wrap ((a : Int) / (b : Int)) = (q : Int) := by
  have h1 : a / b ≤ a := Nat.div_le_self a b
  have h2 : ((a : Int) / (b : Int)) = ((a / b : Nat) : Int) := by simp
  rw [IntKind.wrap_u64, h2, hq]
  omega
theorem rem_u64 {a b r : Nat} (hr : a % b = r) : (a : Int).tmod (b : Int) = (r : Int) := by
  rw [Int.tmod_eq_emod_of_nonneg (by omega), ← hr]
  simp
set_option maxRecDepth 100000 in
set_option maxHeartbeats 2000000 in
theorem crash_any (w : World) (d : Nat) (X : Dk) (k : Nat) (hk : k < 18446744073709551616) (h : At w d X) (hfl : X.falls < 1000000) : Calls Try.prog 13 #[.pointer (some ⟨d, 0, none⟩), .int .u64 (k : Int)] w fun e w' => e = .returned (.tuple #[]) ∧ Done w w' d X (crashX k X) := by
  have H := Lib.hid h
  have hc2 : w.cell? ⟨d, 2, none⟩ = some (.bool X.off) := h.cell 2
  have hmany := h.many
  obtain ⟨off, hoff⟩ : ∃ o, X.off = o := ⟨_, rfl⟩
  rw [hoff] at hc2
  cases off with
  | true =>
    have HX : Hid (crashX k X = X) := Lib.hid (by unfold crashX; rw [hoff]; rfl)
    clear h hoff
    go_enter Try.func13, Try.ntmps13
    go_wp2
    refine bodyPost_ret (results_none rfl _ _ _) rfl ?_
    rw [HX.out]
    exact ⟨rfl, Done.refl H.out⟩
  | false =>
    have HX : Hid (crashX k X = ⟨X.room, crashTo k X.L.length X.L, true, none, X.falls + 1, X.mb⟩) := Lib.hid (by unfold crashX; rw [hoff]; rfl)
    have hnm := names_any w d X h
    obtain ⟨len, hlen⟩ : ∃ n, X.L.length = n := ⟨_, rfl⟩
    rw [hlen] at hnm hmany
    have HL := Lib.hid hlen
    clear h hoff hlen
    go_enter Try.func13, Try.ntmps13
    go_wp2_with (fail)
    refine hnm.mono ?_
    rintro e w1 ⟨A, c, rfl, hrow, hm1⟩
    have HROW := Lib.hid hrow
    have HM1 := Lib.hid hm1
    have HD0 : Hid (Done w w1 d X ⟨X.room, crashTo k 0 X.L, X.off, X.fuse, X.falls, X.mb⟩) := Lib.hid (by rw [crash_zero]; exact Done.still H.out hm1)
    clear hnm hrow hm1 hc2
    go_wp2
    go_loopw [14] (fun v wr => ∃ i : Nat, v = .int .i64 i ∧ i ≤ len ∧ Hid (Done w wr d X ⟨X.room, crashTo k i X.L, X.off, X.fuse, X.falls, X.mb⟩) ∧ Hid (wr.ownsRow w.heap.size 9 1 (.slice A len c) len (strs (X.L.map (·.name))))) (fun v _ => len - (intOf v).toNat)
    case atStart => exact ⟨0, rfl, by omega, HD0, HROW⟩
    case round =>
      obtain ⟨i, rfl, hi, hD, hrow⟩ := hrel
      by_cases hlt : i < len
      · have q1 : (i : Int) < (len : Int) := by omega
        have hiL : i < X.L.length := by rw [HL.out]; exact hlt
        obtain ⟨f, hf⟩ : ∃ f, X.L[i] = f := ⟨_, rfl⟩
        have hfm : f ∈ crashTo k i X.L := by rw [← hf]; exact crash_at hiL
        have hA := hD.out.a
        have hlook := hA.map.look (n := f.name) (by have := (hA.files f hfm).name; unfold maxLen; omega)
        have hF := hA.files f hfm
        have hfa := fnd_at hA.map hfm
        have hlook2 : (Instr.lookup 53 (.map (some X.mb)) (.string (sv f.name)) false).run Try.prog wr = .ok (.pointer (some ⟨f.g, 0, none⟩)) wr := by
          have := hlook
          dsimp only at this hfa
          rw [hfa] at this
          exact this
        have hcm : wr.cell? ⟨d, 1, none⟩ = some (.map (some X.mb)) := hA.cell 1
        rcases own_cases hrow.out with ⟨hv0, hn0, _⟩ | ⟨g, cap, cur, hv0, hg, hB, hnc, hcc, hcs, hx⟩
        · omega
        · injection hv0 with e1 e2 e3
          subst e1 e3
          have hcn : wr.cell? ⟨g, i, none⟩ = some (.string (sv f.name)) := by
            rw [hB.cell]
            have : (strs (X.L.map (·.name)))[i]? = some (.string (sv f.name)) := by
              unfold strs
              rw [List.map_map, List.getElem?_map, List.getElem?_eq_getElem hiL, hf]
              rfl
            rw [← hx, List.getElem?_take_of_lt (by omega)] at this
            simpa using this
          obtain ⟨fa, fc, hfv, hfc1, hfc2⟩ := hF.fb.shape
          have hcf0 : wr.cell? ⟨f.g, 0, none⟩ = some f.v := by rw [hF.blk.cell]; rfl
          have hcf1 : wr.cell? ⟨f.g, 1, none⟩ = some (.int .i64 (f.n : Int)) := by rw [hF.blk.cell]; rfl
          have hff0 := hF.blk.frozen 0
          have hff1 := hF.blk.frozen 1
          rw [hfv] at hcf0
          have hfl1 := hF.lasts
          have hfl2 := hF.len
          obtain ⟨fn, hfn⟩ : ∃ n, f.n = n := ⟨_, rfl⟩
          obtain ⟨fl, hfl0⟩ : ∃ n, f.b.length = n := ⟨_, rfl⟩
          rw [hfn] at hcf1 hfl1
          rw [hfl0] at hcf0 hfl1 hfl2 hfc1
          obtain ⟨N, hN⟩ : ∃ N, newN k i f = N := ⟨_, rfl⟩
          have hNl := newN_le (k := k) (i := i) hF.lasts
          rw [hN, hfl0] at hNl
          obtain ⟨Q, hQ⟩ : ∃ Q, k / (i + 1) = Q := ⟨_, rfl⟩
          have HUPD : Hid (∀ w2, Mod (· = f.g) wr w2 → Blk w2 f.g #[.slice fa N N, .int .i64 (N : Int)] 60 → Done w w2 d X ⟨X.room, crashTo k (i + 1) X.L, X.off, X.fuse, X.falls, X.mb⟩ ∧ w2.ownsRow w.heap.size 9 1 (.slice (some ⟨g, 0, none⟩) len c) len (strs (X.L.map (·.name)))) := Lib.hid (fun w2 hm hb => by
            have hfb : Fb w2 f.v f.b := hF.fb.mod hm (fun y hy he => by
              have he : y = f.g := he
              subst he
              exact ne_cells (U := 5) hF.blk hF.fb hy (by decide) rfl)
            have hFA : FileAt w2 (cutFr k i f) := by
              refine ⟨?_, ?_, ?_, ?_, hF.name⟩
              · show Blk w2 f.g #[cutV f.v (newN k i f), .int .i64 ((newN k i f : Nat) : Int)] 60
                rw [hN, hfv]; exact hb
              · show Fb w2 (cutV f.v (newN k i f)) (f.b.take (newN k i f))
                rw [hfv] at hfb ⊢
                exact hfb.cut _ (newN_le hF.lasts)
              · show newN k i f ≤ (f.b.take (newN k i f)).length
                have := newN_le (k := k) (i := i) hF.lasts
                rw [List.length_take]; omega
              · show (f.b.take (newN k i f)).length ≤ 1099511627776
                have := hF.len
                rw [List.length_take]; omega
            have hown : ∀ x, (cutFr k i f).v.ownBlock = some x → f.v.ownBlock = some x ∨ wr.heap.size ≤ x := fun x hx => by
              left
              have : (cutFr k i f).v = cutV f.v (newN k i f) := rfl
              rw [this, hfv] at hx
              rw [hfv]
              cases fa <;> exact hx
            have hup := hA.upd hfm (f' := cutFr k i f) rfl rfl hown (hm.mono (fun s hs => .inl hs)) hFA
            have hst := crash_step (k := k) H.out.apart hiL
            rw [hf] at hst
            dsimp only at hup
            rw [hst] at hup
            have hfX : f ∈ X.L := by rw [← hf]; exact List.getElem_mem hiL
            exact ⟨hD.out.trans hup, own_mod hrow.out hm (fun y hy he => by
              have he : y = f.g := he
              have h1 := (own_lt hrow.out hy).1
              have h2 := (H.out.files f hfX).blk.lt
              omega)⟩)
          clear hrow hD hA hlook hfa hB hx
          have hQk : Q ≤ k := by rw [← hQ]; exact Nat.div_le_self _ _
          obtain ⟨D, hD⟩ : ∃ D, fl - fn = D := ⟨_, rfl⟩
          obtain ⟨R, hR⟩ : ∃ R, Q % (D + 1) = R := ⟨_, rfl⟩
          have hRD : R ≤ D := by rw [← hR]; have := Nat.mod_lt Q (show 0 < D + 1 by omega); omega
          have hNe : N = fn + R := by
            rw [← hN]
            unfold newN
            rw [hfl0, hfn, hQ, hD, hR]
          have hquo : IntKind.u64.wrap ((k : Int) / ((i : Int) + 1)) = (Q : Int) := quo_u64 (b := i + 1) hk hQ
          have hrem : (Q : Int).tmod ((D : Int) + 1) = (R : Int) := rem_u64 (b := D + 1) hR
          have z1 : ¬ ((i : Int) + 1 = 0) := by omega
          have z2 : ¬ ((D : Int) + 1 = 0) := by omega
          have e1 : IntKind.i64.wrap ((i : Int) + 1) = (i : Int) + 1 := by rw [IntKind.wrap_i64]; omega
          have e2 : IntKind.u64.wrap ((i : Int) + 1) = (i : Int) + 1 := by rw [IntKind.wrap_u64]; omega
          have e3 : IntKind.i64.wrap ((fl : Int) - (fn : Int)) = (D : Int) := by rw [IntKind.wrap_i64]; omega
          have e4 : IntKind.i64.wrap ((D : Int) + 1) = (D : Int) + 1 := by rw [IntKind.wrap_i64]; omega
          have e5 : IntKind.u64.wrap ((D : Int) + 1) = (D : Int) + 1 := by rw [IntKind.wrap_u64]; omega
          have e6 : IntKind.i64.wrap (R : Int) = (R : Int) := by rw [IntKind.wrap_i64]; omega
          have e7 : IntKind.i64.wrap ((fn : Int) + (R : Int)) = (N : Int) := by rw [IntKind.wrap_i64]; omega
          have HNE := Lib.hid hNe
          have HNN := Lib.hid hN
          clear hNe hQ hD hR hN
          go_wp2
          refine still_tail 26 (by kernel_rfl) (by kernel_rfl) ?_
          simp only [List.take_succ_cons, List.take_zero, List.drop_succ_cons, List.drop_zero]
          repeat still_step
          refine wpStill_nil ?_
          go_wp2
          have hMw : Mod (· = f.g) wr (wr.setCell ⟨f.g, 1, none⟩ (.int .i64 (N : Int))).drew := (Mod.setCell (S := (· = f.g)) (Mod.refl _ wr) (p := ⟨f.g, 1, none⟩) (.inl rfl) _).drew
          have hBw : Blk (wr.setCell ⟨f.g, 1, none⟩ (.int .i64 (N : Int))).drew f.g #[.slice fa fl fc, .int .i64 (N : Int)] 60 := by
            have := (hF.blk.set 1 (.int .i64 (N : Int))).drew
            rw [hfv, hfl0] at this
            exact this
          generalize (wr.setCell ⟨f.g, 1, none⟩ (.int .i64 (N : Int))).drew = wa at hMw hBw ⊢
          have hwc0 : wa.cell? ⟨f.g, 0, none⟩ = some (.slice fa fl fc) := hBw.cell 0
          have hwc1 : wa.cell? ⟨f.g, 1, none⟩ = some (.int .i64 (N : Int)) := hBw.cell 1
          have hwf0 := hBw.frozen 0
          have HMW := Lib.hid hMw
          have HBW := Lib.hid hBw
          have hNc : N ≤ fc := by omega
          clear hMw hBw hcf0 hcf1 hff0 hff1 hcm hcn hlook2 hquo hrem e1 e2 e3 e4 e5 e6 e7
          refine still_tail 16 (by kernel_rfl) (by kernel_rfl) ?_
          simp only [List.take_succ_cons, List.take_zero, List.drop_succ_cons, List.drop_zero]
          repeat still_step
          refine wpStill_nil ?_
          go_wp2
          have hfin := HUPD.out (wa.setCell ⟨f.g, 0, none⟩ (.slice fa N N)).drew (HMW.out.trans (Mod.setCell (S := (· = f.g)) (Mod.refl _ wa) (p := ⟨f.g, 0, none⟩) (.inl rfl) _).drew (fun _ h => .inl h)) ((HBW.out.set 0 (.slice fa N N)).drew)
          exact ⟨⟨i + 1, by go_num, by omega, Lib.hid hfin.1, Lib.hid hfin.2⟩, by simp [intOf]; omega⟩
      · have q1 : ¬ (i : Int) < (len : Int) := by omega
        have hil : i = X.L.length := by rw [HL.out]; omega
        have hA := hD.out.a
        have hd2 : wr.cell? ⟨d, 2, none⟩ = some (.bool X.off) := hA.cell 2
        have hd3 : wr.cell? ⟨d, 3, none⟩ = some (.pointer (X.fuse.map fun f => ⟨f.1, 0, none⟩)) := hA.cell 3
        have hd4 : wr.cell? ⟨d, 4, none⟩ = some (.int .i64 X.falls) := hA.cell 4
        have hf2 := hA.free 2
        have hf3 := hA.free 3
        have hf4 := hA.free 4
        have hfl0 := H.out.falls
        have HD := Lib.hid hD.out
        clear hA hrow hD
        subst hil
        go_wp2
        go_end0
        rw [HX.out]
        refine ⟨rfl, HD.out.trans (HD.out.a.cells (X' := ⟨X.room, crashTo k X.L.length X.L, true, none, X.falls + 1, X.mb⟩) rfl rfl ?_ ?_ ?_ H.out.room ⟨by show 0 ≤ X.falls + 1; omega, by show X.falls + 1 ≤ 1000000; omega⟩)⟩
        · exact ((HD.out.a.disk.set 2 (.bool true)).set 3 (.pointer none)).set 4 (.int .i64 (X.falls + 1))
        · exact Mod.setCell (S := (· = d)) (Mod.setCell (S := (· = d)) (Mod.setCell (S := (· = d)) (Mod.refl _ wr) (p := ⟨d, 2, none⟩) (.inl rfl) _) (p := ⟨d, 3, none⟩) (.inl rfl) _) (p := ⟨d, 4, none⟩) (.inl rfl) _
        · intro g a k hk
          cases hk
end Go.Proofs.Ytoceddcppbddnaa
