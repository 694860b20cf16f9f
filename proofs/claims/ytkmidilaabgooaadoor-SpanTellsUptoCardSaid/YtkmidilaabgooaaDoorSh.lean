/-
  shown.
-/
import Derived.Test.YtkmidilaabgooaaDoorCl
namespace Go.Proofs.YtkmidilaabgooaaDoor
open Go.RowKit Mem
set_option linter.unusedVariables false
set_option linter.unusedSimpArgs false

theorem shown_code : codeV [96, 96, 97, 32, 96, 32, 98, 96, 96, 99] = .tuple #[.string (sv [97, 32, 96, 32, 98]), .int .i64 9] := by
  have h1 : close 2 [97, 32, 96, 32, 98, 96, 96, 99] = some ([97, 32, 96, 32, 98], [99]) := by
    rw [close_cons (by decide), close_cons (by decide), close_skip (k := 2) (by decide) (by decide)]
    have e : ([96, 32, 98, 96, 96, 99] : Bs).drop (ticks [96, 32, 98, 96, 96, 99]) = [32, 98, 96, 96, 99] := by decide
    have e2 : ([96, 32, 98, 96, 96, 99] : Bs).take (ticks [96, 32, 98, 96, 96, 99]) = [96] := by decide
    rw [e, e2, close_cons (by decide), close_cons (by decide), close_run (by decide) (by decide)]
    rfl
  have h : codeF [96, 96, 97, 32, 96, 32, 98, 96, 96, 99] = some ([97, 32, 96, 32, 98], [99]) := by
    have e1 : ticks [96, 96, 97, 32, 96, 32, 98, 96, 96, 99] = 2 := by decide
    unfold codeF
    rw [e1, if_neg (by decide)]
    show (close 2 [97, 32, 96, 32, 98, 96, 96, 99]).map _ = _
    rw [h1]
    rfl
  unfold codeV
  rw [h]
  rfl
theorem shown_auto : autoV (autoF [60, 97, 64, 98, 46, 99, 62]) = .tuple #[.string (sv [109, 97, 105, 108, 116, 111, 58, 97, 64, 98, 46, 99]), .string (sv [97, 64, 98, 46, 99]), .int .i64 7] := by
  have h : autoF [60, 97, 64, 98, 46, 99, 62] = some ([109, 97, 105, 108, 116, 111, 58, 97, 64, 98, 46, 99], [97, 64, 98, 46, 99]) := by decide
  rw [h]
  rfl
theorem shown_tag : tagN [60, 97, 32, 98, 61, 39, 99, 39, 32, 100, 47, 62, 120] = 12 := by
  have h1 : attrs [32, 98, 61, 39, 99, 39, 32, 100, 47] = some [47] := by
    rw [(attrs_go (l := [32, 98, 61, 39, 99, 39, 32, 100, 47]) (g := [61, 39, 99, 39, 32, 100, 47]) (v := [32, 100, 47]) (c := 98) (by decide) (by decide) (by decide) (by decide)).1]
    rw [(attrs_go (l := [32, 100, 47]) (g := [47]) (v := [47]) (c := 100) (by decide) (by decide) (by decide) (by decide)).1]
    exact attrs_stop (g := []) (c := 47) (by decide) (.inl (by decide))
  have h2 : tagB [60, 97, 32, 98, 61, 39, 99, 39, 32, 100, 47] = some [] := by
    show (match nameF [97, 32, 98, 61, 39, 99, 39, 32, 100, 47] with
        | none => none
        | some r => (attrs r).map fun r => slash (gapF r)) = _
    have e : nameF [97, 32, 98, 61, 39, 99, 39, 32, 100, 47] = some [32, 98, 61, 39, 99, 39, 32, 100, 47] := by decide
    rw [e]
    dsimp only
    rw [h1]
    rfl
  have h3 := tag_of h2 [120]
  unfold tagN
  rw [show ([60, 97, 32, 98, 61, 39, 99, 39, 32, 100, 47, 62, 120] : Bs) = [60, 97, 32, 98, 61, 39, 99, 39, 32, 100, 47] ++ 62 :: [120] from rfl, h3]
  rfl
theorem shown_raw : rawN [60, 33, 65, 32, 98, 62] = 6 := by
  unfold rawN
  rw [raw_of_not_tag (tag_none 33 _ (by decide) (by decide))]
  decide
theorem code_v {l : Bs} {v : Value} (h : codeV l = v) (m : Int) (hl : l.length ≤ 4294967280) (w : World) (hm : w.cell? ⟨0, 0, none⟩ = some (.int .i64 m)) :
    Calls Tryd.prog 10 #[.string (sv l)] w fun e w' => e = .returned v ∧ Mod (fun _ => False) w w' := by subst h; exact code_any l m w hl hm
theorem auto_v {l : Bs} {v : Value} (h : autoV (autoF l) = v) (m : Int) (hl : l.length ≤ 4194304) (w : World) (hm : w.cell? ⟨0, 0, none⟩ = some (.int .i64 m)) :
    Calls Tryd.prog 12 #[.string (sv l)] w fun e w' => e = .returned v ∧ Mod (fun _ => False) w w' := by subst h; exact auto_any l m w hl hm
theorem raw_n {l : Bs} {n : Nat} (h : rawN l = n) (m : Int) (hl : l.length ≤ 4294967280) (w : World) (hm : w.cell? ⟨0, 0, none⟩ = some (.int .i64 m)) :
    Calls Tryd.prog 16 #[.string (sv l)] w fun e w' => e = .returned (.int .i64 n) ∧ Mod (fun _ => False) w w' := by subst h; exact raw_any l m w hl hm
set_option maxRecDepth 100000 in
set_option maxHeartbeats 1600000 in
theorem shown_any (m : Int) (w : World) (hm : w.cell? ⟨0, 0, none⟩ = some (.int .i64 m)) : Calls Tryd.prog 9 #[] w fun e w' => e = .returned (.bool true) ∧ Mod (fun _ => False) w w' := by
  have HM := Lib.hid hm
  clear hm
  have t1 : (sv [97, 32, 96, 32, 98]).toList = [97, 32, 96, 32, 98] := sv_toList _
  have t2 : (sv [109, 97, 105, 108, 116, 111, 58, 97, 64, 98, 46, 99]).toList = [109, 97, 105, 108, 116, 111, 58, 97, 64, 98, 46, 99] := sv_toList _
  have t3 : (sv [97, 64, 98, 46, 99]).toList = [97, 64, 98, 46, 99] := sv_toList _
  go_enter Tryd.func9, Tryd.ntmps9
  go_wp2_with (fail)
  refine (code_v (l := [96, 96, 97, 32, 96, 32, 98, 96, 96, 99]) shown_code m (by decide) _ HM.out).mono ?_
  rintro e w1 ⟨rfl, h1⟩
  have H1 := Lib.hid h1
  clear h1
  go_wp2_with (fail)
  refine (auto_v (l := [60, 97, 64, 98, 46, 99, 62]) shown_auto m (by decide) _ (mod_cell H1.out HM.out)).mono ?_
  rintro e w2 ⟨rfl, h2⟩
  have H2 := Lib.hid (H1.out.trans h2 (fun _ h => h.elim))
  clear h2
  go_wp2_with (fail)
  refine (tag_n (l := [60, 97, 32, 98, 61, 39, 99, 39, 32, 100, 47, 62, 120]) shown_tag (by decide) _).mono ?_
  rintro e w3 ⟨rfl, h3⟩
  have H3 := Lib.hid (H2.out.trans h3 (fun _ h => h.elim))
  clear h3
  go_wp2_with (fail)
  refine (raw_n (l := [60, 33, 65, 32, 98, 62]) shown_raw m (by decide) _ (mod_cell H3.out HM.out)).mono ?_
  rintro e w4 ⟨rfl, h4⟩
  have H4 := Lib.hid (H3.out.trans h4 (fun _ h => h.elim))
  clear h4
  go_wp2
  go_ret
  exact ⟨rfl, H4.out⟩
end Go.Proofs.YtkmidilaabgooaaDoor
