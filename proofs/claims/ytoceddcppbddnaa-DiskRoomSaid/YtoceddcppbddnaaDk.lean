/-
  Append.
-/
import Derived.Test.YtoceddcppbddnaaDj
namespace Go.Proofs.Ytoceddcppbddnaa
open Go.RowKit Mem Go.Maps
set_option linter.unusedVariables false
set_option linter.unusedSimpArgs false

def Said (w w' : World) (d : Nat) (X : Dk) (R : Ab × Int) (e : Ending) : Prop := ∃ X', e = .returned (.int .i64 R.2) ∧ abs X' = R.1 ∧ Done w w' d X X'
theorem deed_said (w : World) (d : Nat) (X : Dk) (n : Nat) (caps : Array Value) (f : Ab → Ab) (h : At w d X) (hfl : X.falls < 1000000) (hent : ∀ w, (callFunc n caps).run Try.prog w = .ok (.enter n caps) w)
    (hdo : ∀ w1, Done w w1 d X (tick X) → Calls Try.prog n caps w1 fun e w2 => e = .returned (.tuple #[]) ∧ ∃ X', abs X' = f (tickA (abs X)) ∧ Done w1 w2 d (tick X) X') :
    Calls Try.prog 28 #[.pointer (some ⟨d, 0, none⟩), .func (.func n) #[] caps] w fun e w' => Said w w' d X (deedA (abs X) f) e := by
  cases hb : blows X with
  | none =>
    have hbA : blowsA (abs X) = none := by rw [abs_blows, hb]
    refine (deed_any w d X n caps (fun w2 => ∃ X', abs X' = f (tickA (abs X)) ∧ Done w w2 d X X') h hb hent (fun w1 h1 => (hdo w1 h1).mono ?_)).mono ?_
    · rintro e w2 ⟨he, X', h2, h3⟩
      exact ⟨he, X', h2, h1.trans h3⟩
    · rintro e w2 ⟨he, X', h2, h3⟩
      refine ⟨X', ?_, ?_, h3⟩
      · unfold deedA; rw [hbA]; exact he
      · unfold deedA; rw [hbA]; exact h2
  | some k =>
    have hbA : blowsA (abs X) = some k := by rw [abs_blows, hb]
    refine (deed_blows w d X n k caps h hfl hb).mono ?_
    rintro e w2 ⟨he, h3⟩
    refine ⟨crashX k X, ?_, ?_, h3⟩
    · unfold deedA; rw [hbA]; exact he
    · unfold deedA; rw [hbA]; exact abs_crash k X
theorem deed_plain (w : World) (d : Nat) (X : Dk) {A : Ab} (h : At w d X) (hA : abs X = A) (hfl : X.falls < 1000000) : Calls Try.prog 28 #[.pointer (some ⟨d, 0, none⟩), .func (.func 29) #[] #[]] w fun e w' => Said w w' d X (deedA A (fun A => A)) e := by
  subst hA
  refine deed_said w d X 29 #[] (fun A => A) h hfl enter29 (fun w1 h1 => (nothing_any w1).mono ?_)
  rintro e w2 ⟨he, rfl⟩
  exact ⟨he, tick X, abs_tick X, Done.refl h1.a⟩
theorem tot_mem {L : List Fr} {f : Fr} (h : f ∈ L) : f.b.length ≤ tot L := by
  unfold tot
  induction L with
  | nil => cases h
  | cons y L ih =>
    rw [List.map_cons, List.sum_cons]
    rcases List.mem_cons.1 h with rfl | h
    · omega
    · have := ih h; omega
theorem put_some {X : Dk} {f : Fr} {b : Bs} {v : Value} (hL : X.L.Pairwise Apt) (hN : X.L.Pairwise (fun f f' => f.name ≠ f'.name)) {n : Bs} (hf : fndF X.L n = some f) : abs { X with L := updL X.L ⟨f.name, f.b ++ b, f.n, f.g, v⟩ } = withFs (abs X) (putA (abs X).fs n b) := by
  obtain ⟨hm, hn⟩ := fnd_some hf
  have hg : getA (abs X).fs n = some (f.b, f.n) := by rw [abs_get, hf]; rfl
  unfold putA
  rw [hg]
  dsimp only
  unfold withFs abs
  dsimp only
  congr 1
  have := map_upd hL hN hm (f' := ⟨f.name, f.b ++ b, f.n, f.g, v⟩) rfl rfl
  rw [this]
  dsimp only
  rw [hn]
theorem put_none {X : Dk} {n b : Bs} {g : Nat} {v0 v : Value} (hL : (insF ⟨n, [], 0, g, v0⟩ X.L).Pairwise Apt) (hN : (insF ⟨n, [], 0, g, v0⟩ X.L).Pairwise (fun f f' => f.name ≠ f'.name)) (hf : fndF X.L n = none) : abs { X with L := updL (insF ⟨n, [], 0, g, v0⟩ X.L) ⟨n, [] ++ b, 0, g, v⟩ } = withFs (abs X) (putA (abs X).fs n b) := by
  have hg : getA (abs X).fs n = none := by rw [abs_get, hf]; rfl
  unfold putA
  rw [hg]
  dsimp only
  unfold withFs abs
  dsimp only
  congr 1
  have hm : (⟨n, [], 0, g, v0⟩ : Fr) ∈ insF ⟨n, [], 0, g, v0⟩ X.L := (ins_mem _ _ _).2 (.inl rfl)
  have := map_upd hL hN hm (f' := ⟨n, [] ++ b, 0, g, v⟩) rfl rfl
  rw [this, map_ins]
  dsimp only
  rw [List.nil_append]
  have aux : ∀ (fs : List Fl), (∀ p ∈ fs, p.1 ≠ n) → setA (insA (n, [], 0) fs) n b 0 = insA (n, b, 0) fs := by
    intro fs
    induction fs with
    | nil => intro _; show [if (n == n) = true then (n, b, 0) else _] = [(n, b, 0)]; simp
    | cons p fs ih =>
      intro hp
      have hid : setA fs n b 0 = fs := by
        unfold setA
        conv => rhs; rw [← List.map_id fs]
        apply List.map_congr_left
        intro q hq
        have : (q.1 == n) = false := beq_eq_false_iff_ne.2 (hp q (List.mem_cons_of_mem _ hq))
        rw [this]; rfl
      have hpn : (p.1 == n) = false := beq_eq_false_iff_ne.2 (hp p (List.mem_cons_self ..))
      show setA (if bytesBefore n p.1 then (n, [], 0) :: p :: fs else p :: insA (n, [], 0) fs) n b 0 = (if bytesBefore n p.1 then (n, b, 0) :: p :: fs else p :: insA (n, b, 0) fs)
      split
      · show (if (n == n) = true then (n, b, 0) else _) :: (if (p.1 == n) = true then (n, b, 0) else p) :: setA fs n b 0 = _
        rw [hpn, hid]; simp
      · show (if (p.1 == n) = true then (n, b, 0) else p) :: setA (insA (n, [], 0) fs) n b 0 = _
        rw [hpn, ih (fun q hq => hp q (List.mem_cons_of_mem _ hq))]; simp
  refine aux _ (fun p hp => ?_)
  obtain ⟨f, hfm, rfl⟩ := List.mem_map.1 hp
  exact fnd_none hf f hfm
/-- A slice that reads does not lie in the map. -/
theorem Rd.map {w w' : World} {v : Value} {b : Bs} {mb : Nat} {L : List Fr} (h : Rd w v b) (hM : PM w mb L) (hm : Mod (· = mb) w w') : Rd w' v b := by
  rcases h with h | ⟨ad, c, rfl, hc⟩
  · exact .inl h
  · refine .inr ⟨ad, c, rfl, fun j u hu => ?_⟩
    have h1 := hc j u hu
    have h2 := World.block_lt_of_cell? w _ h1
    refine (World.cell?_of_block (w := w) (hm.block _ h2 (fun e => ?_))).trans h1
    obtain ⟨k, _, es, clock, hb, _⟩ := hM
    have e : (ad.add j).block = mb := e
    unfold World.cell? at h1
    rw [e, hb] at h1
    simp at h1
set_option maxRecDepth 100000 in
set_option maxHeartbeats 3000000 in
theorem append_any (w : World) (d : Nat) (X : Dk) (n : Bs) (v : Value) (b : Bs) (h : At w d X) (hr : Rd w v b) (hn : n.length ≤ maxLen) (hfl : X.falls < 1000000) (hmany : X.L.length < 1000) (hlen : tot X.L + b.length ≤ 1099511627776) :
    Calls Try.prog 11 #[.pointer (some ⟨d, 0, none⟩), .string (sv n), v] w fun e w' => Said w w' d X (appendA (abs X) n b) e := by
  have H := Lib.hid h
  have HR := Lib.hid hr
  obtain ⟨va, vc, hv⟩ := hr.shape
  have HV := Lib.hid hv
  have hc0 : w.cell? ⟨d, 0, none⟩ = some (.int .i64 X.room) := h.cell 0
  have hc2 : w.cell? ⟨d, 2, none⟩ = some (.bool X.off) := h.cell 2
  have eo : (abs X).off = X.off := rfl
  have er : (abs X).room = X.room := rfl
  obtain ⟨off, hoff⟩ : ∃ o, X.off = o := ⟨_, rfl⟩
  rw [hoff] at hc2
  have hus : usedA (abs X) = usedN off (tot X.L) := by rw [abs_used, hoff]
  cases off with
  | true =>
    have HA : Hid (appendA (abs X) n b = (abs X, 13)) := Lib.hid (by unfold appendA; rw [eo, hoff]; rfl)
    clear hoff hr hv h eo er hus
    go_enter Try.func11, Try.ntmps11
    go_wp2
    go_ret
    rw [HA.out]
    exact ⟨X, rfl, rfl, Done.refl H.out⟩
  | false =>
    obtain ⟨nm, hnm⟩ : ∃ x, nmA n = x := ⟨_, rfl⟩
    have hnmd := fun w => named_b hnm hn w
    cases nm with
    | false =>
      have HA : Hid (appendA (abs X) n b = (abs X, 1)) := Lib.hid (by unfold appendA; rw [eo, hoff, if_neg (by decide), if_pos hnm])
      clear hoff hr hv h eo er hus hnm
      go_enter Try.func11, Try.ntmps11
      go_wp2_with (fail)
      refine (hnmd _).mono ?_
      rintro e w' ⟨rfl, rfl⟩
      go_wp2
      go_ret
      rw [HA.out]
      exact ⟨X, rfl, rfl, Done.refl H.out⟩
    | true =>
      have hus' : usedA (abs X) = tot X.L := hus
      have hroom := h.room
      have hcx : ∀ x : After w, x.w.cell? ⟨d, 0, none⟩ = some (.int .i64 X.room) := calm_cell hc0
      have hused : ∀ x : After w, Calls Try.prog 18 #[.pointer (some ⟨d, 0, none⟩)] x.w fun e w' => e = .returned (.int .i64 ((tot X.L : Nat) : Int)) ∧ Mod (fun _ => False) x.w w' := fun x => by
        have := used_any x.w d X (h.still x.m)
        rw [hoff] at this
        exact this
      have HU := Lib.hid hused
      obtain ⟨u, hu⟩ : ∃ u, tot X.L = u := ⟨_, rfl⟩
      rw [hu] at hused hus' hlen
      have e1 : IntKind.i64.wrap (X.room - (u : Int)) = X.room - (u : Int) := by rw [IntKind.wrap_i64]; omega
      obtain ⟨bl, hbl⟩ : ∃ l, b.length = l := ⟨_, rfl⟩
      rw [hv, hbl]
      by_cases hfull : (bl : Int) > X.room - (u : Int)
      · have HA : Hid (appendA (abs X) n b = (abs X, 14)) := Lib.hid (by
          unfold appendA
          rw [eo, hoff, if_neg (by decide), if_neg (by rw [hnm]; decide), if_pos]
          rw [er, hus', hbl]; exact hfull)
        clear hoff hr hv h eo er hus hnm hus' HU hu hbl
        go_enter Try.func11, Try.ntmps11
        go_wp2_with (fail)
        refine (hnmd _).mono ?_
        rintro e w' ⟨rfl, rfl⟩
        go_wp2
        refine region_calm (by kernel_rfl) (by kernel_rfl) ?_
        repeat (go_big_quiet_step (first | (go_at_call 18; exact calm_call (hused _))))
        refine calm_end (fun w9 hm9 => ?_)
        have HD9 := Lib.hid (Done.still H.out hm9)
        clear hm9 hcx hused
        go_wp2
        go_ret
        rw [HA.out]
        exact ⟨X, rfl, rfl, HD9.out⟩
      · have HA : Hid (appendA (abs X) n b = deedA (withFs (abs X) (putA (abs X).fs n b)) (fun A => A)) := Lib.hid (by
          unfold appendA
          rw [eo, hoff, if_neg (by decide), if_neg (by rw [hnm]; decide), if_neg]
          rw [er, hus', hbl]; exact hfull)
        have hNm : n.length ≤ 32 := by
          unfold nmA at hnm
          simp at hnm
          exact hnm.2
        have hcm : w.cell? ⟨d, 1, none⟩ = some (.map (some X.mb)) := h.cell 1
        have hnames := apart_names h.map
        obtain ⟨o, ho⟩ : ∃ o, fndF X.L n = o := ⟨_, rfl⟩
        have HB := Lib.hid hbl
        have HUU := Lib.hid hu
        cases o with
        | some f =>
          obtain ⟨hfm, hfn⟩ := fnd_some ho
          have HPUT : Hid (∀ v', abs { X with L := updL X.L ⟨f.name, f.b ++ b, f.n, f.g, v'⟩ } = withFs (abs X) (putA (abs X).fs n b)) := Lib.hid (fun v' => put_some h.apart hnames ho)
          have hfl2 : f.b.length + b.length ≤ 1099511627776 := by have := tot_mem hfm; omega
          have HO := Lib.hid ho
          clear hoff hr hv h eo er hus hnm hus' HU hu hbl ho hnames
          go_enter Try.func11, Try.ntmps11
          go_wp2_with (fail)
          refine (hnmd _).mono ?_
          rintro e w' ⟨rfl, rfl⟩
          go_wp2
          refine region_calm (by kernel_rfl) (by kernel_rfl) ?_
          repeat (go_big_quiet_step (first | (go_at_call 18; exact calm_call (hused _))))
          refine calm_end (fun w9 hm9 => ?_)
          have hA9 := H.out.still hm9
          have hlook := hA9.map.look hn
          rw [HO.out] at hlook
          have hlook' : (Instr.lookup 53 (.map (some X.mb)) (.string (sv n)) false).run Try.prog w9 = .ok (.pointer (some ⟨f.g, 0, none⟩)) w9 := hlook
          have hcm9 : w9.cell? ⟨d, 1, none⟩ = some (.map (some X.mb)) := hA9.cell 1
          have hF := hA9.files f hfm
          have hcf : w9.cell? ⟨f.g, 0, none⟩ = some f.v := by rw [hF.blk.cell]; rfl
          obtain ⟨a', k', c', w1, hrun, hcf1, hff1, hdone⟩ := hA9.grow hfm (HR.out.mod hm9 (fun _ _ h => h)) hfl2
          rw [HV.out, HB.out] at hrun
          have HD := Lib.hid ((Done.still H.out hm9).trans hdone)
          clear hA9 hlook hF hdone hm9 hcx hused hcm hfl2
          go_wp2_with (first | (at_builtin; refine wpList_append_run rfl _ _ 22 22 rfl _ _ rfl rfl hrun ?_))
          refine (deed_plain _ d _ HD.out.a (HPUT.out (.slice a' k' c')) hfl).mono ?_
          rintro e w3 ⟨X3, rfl, hX3, hD3⟩
          have HX3 := Lib.hid hX3
          have HD3 := Lib.hid (HD.out.trans hD3)
          clear hX3 hD3
          go_wp2
          go_ret
          rw [HA.out]
          exact ⟨X3, rfl, HX3.out, HD3.out⟩
        | none =>
          have hnf := fnd_none ho
          have HO := Lib.hid ho
          have HHn := Lib.hid hn
          clear hoff hr hv h eo er hus hnm hus' HU hu hbl ho hnames hnf
          go_enter Try.func11, Try.ntmps11
          go_wp2_with (fail)
          refine (hnmd _).mono ?_
          rintro e w' ⟨rfl, rfl⟩
          go_wp2
          refine region_calm (by kernel_rfl) (by kernel_rfl) ?_
          repeat (go_big_quiet_step (first | (go_at_call 18; exact calm_call (hused _))))
          refine calm_end (fun w9 hm9 => ?_)
          have hA9 := H.out.still hm9
          have hlook := hA9.map.look hn
          rw [HO.out] at hlook
          have hlook' : (Instr.lookup 53 (.map (some X.mb)) (.string (sv n)) false).run Try.prog w9 = .ok (.pointer none) w9 := hlook
          have hcm9 : w9.cell? ⟨d, 1, none⟩ = some (.map (some X.mb)) := hA9.cell 1
          have hma : Mod (fun _ => False) w9 (w9.alloc (.cells #[.slice none 0 0, .int .i64 0] 60)) := (Mod.refl _ _).alloc _
          have hAa := hA9.still hma
          have hBa : Blk (w9.alloc (.cells #[.slice none 0 0, .int .i64 0] 60)) w9.heap.size #[.slice none 0 0, .int .i64 0] 60 := Blk.new _ _ _
          have hFa : FileAt (w9.alloc (.cells #[.slice none 0 0, .int .i64 0] 60)) ⟨n, [], 0, w9.heap.size, .slice none 0 0⟩ := ⟨hBa, Fb.nil _, Nat.le_refl _, Nat.zero_le _, hNm⟩
          have hcma : (w9.alloc (.cells #[.slice none 0 0, .int .i64 0] 60)).cell? ⟨d, 1, none⟩ = some (.map (some X.mb)) := hAa.cell 1
          obtain ⟨wb, hput, hPM, hmb⟩ := hAa.map.put ⟨n, [], 0, w9.heap.size, .slice none 0 0⟩ hn (by omega)
          dsimp only at hput hPM
          rw [del_none HO.out] at hPM
          have hDb := hA9.ins hma hmb hPM hFa (Nat.le_refl _) (fun y hy => by cases hy) hmany
          have hRa := (HR.out.mod hm9 (fun _ _ h => h)).mod hma (fun _ _ h => h)
          have hRb : Rd wb v b := hRa.map hAa.map hmb
          have hfm : (⟨n, [], 0, w9.heap.size, .slice none 0 0⟩ : Fr) ∈ insF ⟨n, [], 0, w9.heap.size, .slice none 0 0⟩ X.L := (ins_mem _ _ _).2 (.inl rfl)
          obtain ⟨a', k', c', w1, hrun, hcf1, hff1, hdone⟩ := hDb.a.grow hfm hRb (by show 0 + b.length ≤ _; omega)
          rw [HV.out, HB.out] at hrun
          dsimp only at hrun hcf1 hff1 hdone
          have hcb : wb.cell? ⟨w9.heap.size, 0, none⟩ = some (.slice none 0 0) := (hDb.a.files _ hfm).blk.cell 0
          have HPUT : Hid (abs { X with L := updL (insF ⟨n, [], 0, w9.heap.size, .slice none 0 0⟩ X.L) ⟨n, [] ++ b, 0, w9.heap.size, .slice a' k' c'⟩ } = withFs (abs X) (putA (abs X).fs n b)) := Lib.hid (put_none hDb.a.apart (apart_names hPM) HO.out)
          have HD := Lib.hid (((Done.still H.out hm9).trans hDb).trans hdone)
          clear hA9 hlook hdone hm9 hcx hused hcm hma hAa hBa hFa hPM hmb hDb hRa hRb hfm
          go_wp2_with (first | (at_builtin; refine wpList_append_run rfl _ _ 22 22 rfl _ _ rfl rfl hrun ?_))
          refine (deed_plain _ d _ HD.out.a HPUT.out hfl).mono ?_
          rintro e w3 ⟨X3, rfl, hX3, hD3⟩
          have HX3 := Lib.hid hX3
          have HD3 := Lib.hid (HD.out.trans hD3)
          clear hX3 hD3
          go_wp2
          go_ret
          rw [HA.out]
          exact ⟨X3, rfl, HX3.out, HD3.out⟩
end Go.Proofs.Ytoceddcppbddnaa
