/-
  shown.
-/
import Derived.Test.YtpbdcjgconopnaaSe
namespace Go.Proofs.Ytpbdcjgconopnaa
open Go.RowKit Mem
set_option linter.unusedVariables false

def g0 : Gr := ⟨[97], [98, 47, 120], 1⟩
theorem set_first {c : Int} {m : List Gr} (h : SetOf [] g0 c m) : c = 0 ∧ m = [g0] := by
  have hg : goodG [] g0 := ⟨by decide, by decide, by decide, by decide⟩
  rcases h with ⟨h, _⟩ | ⟨_, i, hb, h⟩
  · exact absurd hg h
  · have hi : i = 0 := by have := hb.1; simpa using this
    subst hi
    have hf : foundB [] g0 0 = false := rfl
    rcases h with ⟨h, _⟩ | ⟨h, _⟩ | ⟨_, h, _⟩ | ⟨_, _, h, _⟩ | ⟨_, _, _, h1, h2⟩
    · rw [hf] at h; cases h
    · rw [hf] at h; cases h
    · exact absurd h (by decide)
    · simp at h
    · exact ⟨h1, h2⟩
theorem set_b (w : World) : Calls Try.prog 8 #[.slice none 0 0, .agg #[.string ⟨#[97]⟩, .string ⟨#[98, 47, 120]⟩, .int .i64 1]] w fun e w' => ∃ v, e = .returned (.tuple #[v, .int .i64 0]) ∧ Hid (Gs w' v [g0]) ∧ Mod (fun _ => False) w w' := by
  refine (set_any (.slice none 0 0) [] g0 w (.inl ⟨rfl, rfl⟩) (fun _ h => by cases h) (by refine ⟨?_, ?_, ?_, ?_⟩ <;> decide)).mono ?_
  rintro e w' ⟨v, c, m, he, hs, hG, hm⟩
  obtain ⟨rfl, rfl⟩ := set_first hs
  exact ⟨v, he, Lib.hid hG, hm⟩
theorem may_b {v : Value} {l : List Gr} (t u : Bs) {x : Int} (w : World) (h : Gs w v l) (hg : Goks l) (hu : u.length ≤ 9223372036854775807) (hx : mayB l t u = x) : Calls Try.prog 10 #[v, .string (sv t), .string (sv u)] w fun e w' => e = .returned (.int .i64 x) ∧ Mod (fun _ => False) w w' := by
  rw [← hx]; exact may_any v l t u w h hg hu
theorem goks0 : Goks [g0] := by
  intro g hg
  obtain rfl : g = g0 := by simpa using hg
  refine ⟨?_, ?_, ?_, ?_⟩ <;> decide

/-- Without a fault, and nothing that was there has turned. -/
def Same' (b : Bool) (w : World) (e : Ending) (w' : World) : Prop := e = .returned (.bool b) ∧ Mod (fun _ => False) w w'

set_option maxRecDepth 100000 in
set_option maxHeartbeats 3200000 in
theorem shown_any (w : World) : Calls Try.prog 7 #[] w (Same' true w) := by
  go_enter Try.func7, Try.ntmps7
  go_wp2_with (fail)
  refine (set_b w).mono ?_
  rintro e w1 ⟨v, rfl, hG, hm1⟩
  have HM1 := Lib.hid hm1
  clear hm1
  go_wp2_with (fail)
  refine (who_b (l := [98, 47, 120]) (v := .tuple #[.string (sv [98]), .string (sv [120]), .bool true]) (by decide) (by rfl) w1).mono ?_
  rintro e w2 ⟨rfl, hm2⟩
  have HM2 : Hid (Mod (fun _ => False) w w2) := Lib.hid (HM1.out.trans hm2 (fun _ h => h.elim))
  have HG2 := Lib.hid (hG.out.new hm2)
  clear hm2 HM1
  obtain ⟨A, c, rfl, hc1, hc2, _⟩ := HG2.out.form
  go_wp2_with (fail)
  refine (may_b [97] [98, 47, 120] (x := 1) w2 HG2.out goks0 (by decide) (by decide)).mono ?_
  rintro e w3 ⟨rfl, hm3⟩
  have HM3 : Hid (Mod (fun _ => False) w w3) := Lib.hid (HM2.out.trans hm3 (fun _ h => h.elim))
  have HG3 := Lib.hid (HG2.out.new hm3)
  clear hm3
  go_wp2_with (fail)
  refine (may_b [97] [97, 47, 114, 111, 111, 116] (x := 3) w3 HG3.out goks0 (by decide) (by decide)).mono ?_
  rintro e w4 ⟨rfl, hm4⟩
  have HM4 : Hid (Mod (fun _ => False) w w4) := Lib.hid (HM3.out.trans hm4 (fun _ h => h.elim))
  have HG4 := Lib.hid (HG3.out.new hm4)
  clear hm4
  go_wp2_with (fail)
  refine (may_b [97] [97, 47, 120] (x := 2) w4 HG4.out goks0 (by decide) (by decide)).mono ?_
  rintro e w5 ⟨rfl, hm5⟩
  have HM5 : Hid (Mod (fun _ => False) w w5) := Lib.hid (HM4.out.trans hm5 (fun _ h => h.elim))
  have HG5 := Lib.hid (HG4.out.new hm5)
  clear hm5
  go_wp2_with (fail)
  refine (may_b [97] [98, 47, 121] (x := 0) w5 HG5.out goks0 (by decide) (by decide)).mono ?_
  rintro e w6 ⟨rfl, hm6⟩
  have HM6 : Hid (Mod (fun _ => False) w w6) := Lib.hid (HM5.out.trans hm6 (fun _ h => h.elim))
  clear hm6
  have q1 : (sv [98]).toList = [98] := sv_toList _
  have q2 : (sv [120]).toList = [120] := sv_toList _
  go_wp2
  go_ret
  exact ⟨rfl, HM6.out⟩
end Go.Proofs.Ytpbdcjgconopnaa
