/-
  SnapNumbers' walk.
-/
import Derived.Test.YtealopafgipimaaDoorSh
namespace Go.Proofs.YtealopafgipimaaDoor
open Go.RowKit Mem
set_option linter.unusedVariables false
set_option linter.unusedSimpArgs false

/-- The front of a row reads as the front of its bytes. -/
theorem RdC.front {w : World} {x : Addr} {m c : Nat} {l r : Bs} (h : RdC w (.slice (some x) m c) (l ++ r)) : RdC w (.slice (some x) l.length c) l := by
  obtain ⟨h1, A, c', hv, hl, hm⟩ := h
  injection hv with e1 e2 e3
  subst e3
  rw [List.length_append] at hl
  refine ⟨.inr ⟨x, c, rfl, fun j u hj => ?_⟩, some x, c, rfl, by omega, hm⟩
  rcases h1 with ⟨hv, _⟩ | ⟨x', c'', hv, hc⟩
  · cases hv
  · injection hv with f1 f2 f3
    injection f1 with f1
    subst f1
    refine hc j u ?_
    have hj2 : j < (bts l).length := (List.getElem?_eq_some_iff.1 hj).1
    rw [bts_app, List.getElem?_append_left hj2]
    exact hj
set_option maxRecDepth 100000 in
set_option maxHeartbeats 3200000 in
theorem snapNumbers_walk (A : Option Addr) (n c : Nat) (l s : Bs) (N : Nat) (most : Int) (w : World) (hn : l.length = n) (hl : l.length ≤ 1048572) (hs : s.length ≤ 1048576) (hN : N < 18446744073709551616) (hm : -9223372036854775808 ≤ most ∧ most ≤ 9223372036854775807) (hin : RdC w (.slice A n c) l) (hg : ErrT w) :
    Calls Tryd.prog 3 #[.slice A n c, .int .u64 (N : Int), .string (sv s), .int .i64 most] w fun e w' => e = .returned (.bool true) ∧ Mod (fun _ => False) w w' := by
  go_enter Tryd.func3, Tryd.ntmps3
  go_wp2_with (fail)
  refine (shown_any w hg).mono ?_
  rintro e w1 ⟨rfl, hm1⟩
  have hin1 := hin.mod hm1
  obtain ⟨A2, c2, w2, hr2, hO2, hm2⟩ := copy_ob w1 _ l hin1.1 (by omega)
  rw [hn] at hr2 hO2
  obtain ⟨A3, c3, w3, hr3, hO3, hm3⟩ := hO2.app1 99 hm2 (by omega)
  have hin3 := hin1.mod hm3
  have hM3 := md_then hm1 hm3
  have hr3' : ((99 : UInt8).toNat : Int) = 99 := rfl
  rw [hr3'] at hr3
  have hrd := hO3.rd
  obtain ⟨_, A3', c3', hv3, hlc3, hcm3⟩ := hO3.rd
  injection hv3 with e1 e2 e3
  subst e3
  obtain ⟨x3, rfl⟩ : ∃ x, A3 = some x := by
    rcases hO3 with ⟨h, h2⟩ | ⟨g, _, cap, cur, h, _⟩
    · exact absurd (congrArg List.length h2) (by simp)
    · injection h with h _ _
      exact ⟨_, h⟩
  rw [hn] at hr3 hrd
  have hfr := hrd.front
  rw [hn] at hfr
  have hlc : n + 1 ≤ c3 := by rw [List.length_append, hn] at hlc3; simpa using hlc3
  have hcx : (n : Int) ≤ (c3 : Int) := by omega
  have hcy : (n : Int) + 1 ≤ (c3 : Int) := by omega
  have hcm : c3 ≤ 9223372036854775807 := Nat.le_trans hcm3 maxLen_le
  have H := Lib.hid (And.intro hM3 (And.intro hin3 (And.intro hrd hfr)))
  have HN := Lib.hid hn
  clear hin hin1 hm1 hm2 hm3 hO2 hO3 hin3 hM3 hr3' hlc3 hcm3 e1 e2 hrd hfr hn hlc
  go_wp2_with (at_builtin; first | refine wpList_append_run rfl _ _ 22 22 rfl _ _ rfl rfl hr2 ?_ | refine wpList_append_run rfl _ _ 22 22 rfl _ _ rfl rfl hr3 ?_)
  obtain ⟨X, hX⟩ : ∃ X, (gn l).1 = X := ⟨_, rfl⟩
  obtain ⟨Y, hY⟩ : ∃ Y, (gn l).2 = Y := ⟨_, rfl⟩
  obtain ⟨T, hT⟩ : ∃ T, (gt l most).1 = T := ⟨_, rfl⟩
  obtain ⟨Z, hZ⟩ : ∃ Z, (gt l most).2 = Z := ⟨_, rfl⟩
  have g1 := getnum_rd H.out.2.2.2
  have g2 := rgetnum_any A n c l w3 HN.out H.out.2.1
  have g3 := gettext_any _ _ _ l most w3 HN.out H.out.2.2.2 hm
  have g4 := rgettext_any _ _ _ l most w3 HN.out H.out.2.1 hm
  rw [hX, hY] at g1 g2
  rw [hT, hZ] at g3 g4
  have g5 := putnum_any _ _ _ l N w3 HN.out (by have := HN.out; omega) H.out.2.2.2.1 hN
  have t1 : (sv T).toList = T := sv_toList T
  have HL := Lib.hid hl
  clear hX hY hT hZ hl
  refine g1.mono ?_
  rintro e w4 ⟨rfl, rfl⟩
  go_wp2_with (fail)
  refine g2.mono ?_
  rintro e w5 ⟨rfl, rfl⟩
  go_wp2_with (fail)
  refine g3.mono ?_
  rintro e w6 ⟨rfl, rfl⟩
  go_wp2_with (fail)
  refine g4.mono ?_
  rintro e w7 ⟨rfl, rfl⟩
  go_wp2_with (fail)
  refine g5.mono ?_
  rintro e w8 ⟨v8, rfl, hO8, hm8⟩
  clear g1 g2 g3 g4 g5
  go_wp2_with (fail)
  obtain ⟨a8, k8, rfl⟩ := hO8.val
  refine (puttext_any _ _ _ l s w8 HN.out (by have := HN.out; have := HL.out; omega) hs (H.out.2.2.2.mod hm8).1).mono ?_
  rintro e w9 ⟨v9, rfl, hO9, hm9⟩
  obtain ⟨a9, k9, rfl⟩ := hO9.val
  obtain ⟨P, hP⟩ : ∃ P, l ++ pn N = P := ⟨_, rfl⟩
  obtain ⟨Q, hQ⟩ : ∃ Q, l ++ pn s.length ++ s = Q := ⟨_, rfl⟩
  have hPQ := Lib.hid (And.intro hP hQ)
  rw [hP] at hO8 ⊢
  rw [hQ] at hO9 ⊢
  have tP : (sv P).toList = P := sv_toList P
  have tQ : (sv Q).toList = Q := sv_toList Q
  have xP := (hO8.mod hm9).text
  have xQ := hO9.text
  have hm := md_then hm8 hm9
  have H9 := Lib.hid (And.intro (md_then H.out.1 hm) (And.intro (H.out.2.1.mod hm) (And.intro (H.out.2.2.1.mod hm) (And.intro (hO8.mod hm9) hO9))))
  clear hm hm8 hm9 hO8 hO9 H hP hQ
  obtain ⟨LL, hLL⟩ : ∃ LL, l ++ [99] = LL := ⟨_, rfl⟩
  have hcc : sv l ++ (⟨#[99]⟩ : ByteArray) = sv LL := by rw [← hLL]; exact sv_plus l [99]
  have tL : (sv LL).toList = LL := sv_toList LL
  have sl : ((sv l).size : Int) ≤ 8388608 := by rw [sv_size]; have := HL.out; omega
  have HX : Hid (∀ w', Mod (fun _ => False) w9 w' → (convert 22 9 (.slice a8 P.length k8)).run Tryd.prog w' = .ok (.string (sv P)) w' ∧ (convert 22 9 (.slice a9 Q.length k9)).run Tryd.prog w' = .ok (.string (sv Q)) w' ∧ (convert 22 9 (.slice (some x3) (n + 1) c3)).run Tryd.prog w' = .ok (.string (sv LL)) w' ∧ (convert 22 9 (.slice A n c)).run Tryd.prog w' = .ok (.string (sv l)) w') :=
    Lib.hid (fun w' hm => ⟨(H9.out.2.2.2.1.mod hm).text, (H9.out.2.2.2.2.mod hm).text, by rw [← hLL]; exact (H9.out.2.2.1.mod hm).1.text, (H9.out.2.1.mod hm).1.text⟩)
  have hw1 : IntKind.i64.wrap ((n : Int) + 1) = (n : Int) + 1 := by rw [IntKind.wrap_i64]; have := HN.out; have := HL.out; omega
  have hsz : ¬ 9223372036854775807 < (sv l).size + 1 := by rw [sv_size]; have := HL.out; omega
  have hw2 : ((n : Int) + 1).toNat = n + 1 := by omega
  have hw3 : 0 ≤ (n : Int) + 1 := by omega
  clear hLL xP xQ
  go_wp2_with (fail)
  refine wp_region_held_drew (S := fun w' => Mod (fun _ => False) w9 w') (by kernel_rfl) (Mod.refl _ w9).drew (fun hHeld => ?_)
  refine wpAnyH_take (i := 0) (oi := { dst := some 58, op := Op.move (Operand.tmp 9), type := 4, pos := "law.go:55", after := #[], guard := none }) (v := ?_) rfl (by kernel_rfl) (by kernel_rfl) (by kernel_rfl) (fun _ _ _ h => h) (Or.inl ⟨by rfl, ?_⟩) hHeld ?_
  rotate_left
  · intro w' hSw
    go_simp
    try with_reducible rfl
  try simp only [Act.put, List.setIfInBounds_toArray, List.set_cons_zero, List.set_cons_succ]
  refine wpAnyH_take (i := 1) (oi := { dst := some 59, op := Op.move (Operand.tmp 58), type := 4, pos := "law.go:55", after := #[{ on := 0, ground := Ground.data }], guard := none }) (v := ?_) rfl (by kernel_rfl) (by kernel_rfl) (by kernel_rfl) (fun _ _ _ h => h) (Or.inl ⟨by rfl, ?_⟩) hHeld ?_
  rotate_left
  · intro w' hSw
    go_simp
    try with_reducible rfl
  try simp only [Act.put, List.setIfInBounds_toArray, List.set_cons_zero, List.set_cons_succ]
  refine wpAnyH_take (i := 2) (oi := { dst := some 60, op := Op.move (Operand.tmp 11), type := 23, pos := "law.go:55", after := #[{ on := 1, ground := Ground.guard }], guard := some (1, true) }) (v := ?_) rfl (by kernel_rfl) (by kernel_rfl) (by kernel_rfl) (fun _ _ _ h => h) (Or.inl ⟨by rfl, ?_⟩) hHeld ?_
  rotate_left
  · intro w' hSw
    go_simp
    try with_reducible rfl
  try simp only [Act.put, List.setIfInBounds_toArray, List.set_cons_zero, List.set_cons_succ]
  refine wpAnyH_take (i := 3) (oi := { dst := some 61, op := Op.move (Operand.tmp 13), type := 23, pos := "law.go:55", after := #[{ on := 1, ground := Ground.guard }], guard := some (1, true) }) (v := ?_) rfl (by kernel_rfl) (by kernel_rfl) (by kernel_rfl) (fun _ _ _ h => h) (Or.inl ⟨by rfl, ?_⟩) hHeld ?_
  rotate_left
  · intro w' hSw
    go_simp
    try with_reducible rfl
  try simp only [Act.put, List.setIfInBounds_toArray, List.set_cons_zero, List.set_cons_succ]
  refine wpAnyH_take (i := 4) (oi := { dst := some 62, op := Op.binOp BinOp.eql 23 (Operand.tmp 60) (Operand.tmp 61) 23, type := 4, pos := "law.go:55", after := #[{ on := 2, ground := Ground.data }, { on := 3, ground := Ground.data }, { on := 1, ground := Ground.guard }], guard := some (1, true) }) (v := ?_) rfl (by kernel_rfl) (by kernel_rfl) (by kernel_rfl) (fun _ _ _ h => h) (Or.inl ⟨by rfl, ?_⟩) hHeld ?_
  rotate_left
  · intro w' hSw
    go_simp
    try with_reducible rfl
  try simp only [Act.put, List.setIfInBounds_toArray, List.set_cons_zero, List.set_cons_succ]
  refine wpAnyH_take (i := 5) (oi := { dst := some 63, op := Op.pick (Operand.tmp 59) (Operand.tmp 62) (Operand.const (Value.bool false)), type := 4, pos := "law.go:55", after := #[{ on := 1, ground := Ground.data }, { on := 4, ground := Ground.data }], guard := none }) (v := ?_) rfl (by kernel_rfl) (by kernel_rfl) (by kernel_rfl) (fun _ _ _ h => h) (Or.inl ⟨by rfl, ?_⟩) hHeld ?_
  rotate_left
  · intro w' hSw
    go_simp
    try with_reducible rfl
  try simp only [Act.put, List.setIfInBounds_toArray, List.set_cons_zero, List.set_cons_succ]
  refine wpAnyH_take (i := 6) (oi := { dst := some 64, op := Op.move (Operand.tmp 63), type := 4, pos := "law.go:55", after := #[{ on := 5, ground := Ground.data }, { on := 1, ground := Ground.chain }], guard := none }) (v := ?_) rfl (by kernel_rfl) (by kernel_rfl) (by kernel_rfl) (fun _ _ _ h => h) (Or.inl ⟨by rfl, ?_⟩) hHeld ?_
  rotate_left
  · intro w' hSw
    go_simp
    try with_reducible rfl
  try simp only [Act.put, List.setIfInBounds_toArray, List.set_cons_zero, List.set_cons_succ]
  refine wpAnyH_take (i := 7) (oi := { dst := some 65, op := Op.move (Operand.tmp 12), type := 3, pos := "law.go:55", after := #[{ on := 6, ground := Ground.guard }], guard := some (6, true) }) (v := ?_) rfl (by kernel_rfl) (by kernel_rfl) (by kernel_rfl) (fun _ _ _ h => h) (Or.inl ⟨by rfl, ?_⟩) hHeld ?_
  rotate_left
  · intro w' hSw
    go_simp
    try with_reducible rfl
  try simp only [Act.put, List.setIfInBounds_toArray, List.set_cons_zero, List.set_cons_succ]
  refine wpAnyH_take (i := 8) (oi := { dst := some 66, op := Op.move (Operand.tmp 14), type := 3, pos := "law.go:55", after := #[{ on := 6, ground := Ground.guard }], guard := some (6, true) }) (v := ?_) rfl (by kernel_rfl) (by kernel_rfl) (by kernel_rfl) (fun _ _ _ h => h) (Or.inl ⟨by rfl, ?_⟩) hHeld ?_
  rotate_left
  · intro w' hSw
    go_simp
    try with_reducible rfl
  try simp only [Act.put, List.setIfInBounds_toArray, List.set_cons_zero, List.set_cons_succ]
  refine wpAnyH_take (i := 9) (oi := { dst := some 67, op := Op.binOp BinOp.eql 3 (Operand.tmp 65) (Operand.tmp 66) 3, type := 4, pos := "law.go:55", after := #[{ on := 7, ground := Ground.data }, { on := 8, ground := Ground.data }, { on := 6, ground := Ground.guard }], guard := some (6, true) }) (v := ?_) rfl (by kernel_rfl) (by kernel_rfl) (by kernel_rfl) (fun _ _ _ h => h) (Or.inl ⟨by rfl, ?_⟩) hHeld ?_
  rotate_left
  · intro w' hSw
    go_simp
    try with_reducible rfl
  try simp only [Act.put, List.setIfInBounds_toArray, List.set_cons_zero, List.set_cons_succ]
  refine wpAnyH_take (i := 10) (oi := { dst := some 68, op := Op.pick (Operand.tmp 64) (Operand.tmp 67) (Operand.const (Value.bool false)), type := 4, pos := "law.go:55", after := #[{ on := 6, ground := Ground.data }, { on := 9, ground := Ground.data }], guard := none }) (v := ?_) rfl (by kernel_rfl) (by kernel_rfl) (by kernel_rfl) (fun _ _ _ h => h) (Or.inl ⟨by rfl, ?_⟩) hHeld ?_
  rotate_left
  · intro w' hSw
    go_simp
    try with_reducible rfl
  try simp only [Act.put, List.setIfInBounds_toArray, List.set_cons_zero, List.set_cons_succ]
  refine wpAnyH_take (i := 11) (oi := { dst := some 69, op := Op.move (Operand.tmp 68), type := 4, pos := "law.go:55", after := #[{ on := 10, ground := Ground.data }, { on := 6, ground := Ground.chain }], guard := none }) (v := ?_) rfl (by kernel_rfl) (by kernel_rfl) (by kernel_rfl) (fun _ _ _ h => h) (Or.inl ⟨by rfl, ?_⟩) hHeld ?_
  rotate_left
  · intro w' hSw
    go_simp
    try with_reducible rfl
  try simp only [Act.put, List.setIfInBounds_toArray, List.set_cons_zero, List.set_cons_succ]
  refine wpAnyH_take (i := 12) (oi := { dst := some 70, op := Op.move (Operand.tmp 15), type := 9, pos := "law.go:55", after := #[{ on := 11, ground := Ground.guard }], guard := some (11, true) }) (v := ?_) rfl (by kernel_rfl) (by kernel_rfl) (by kernel_rfl) (fun _ _ _ h => h) (Or.inl ⟨by rfl, ?_⟩) hHeld ?_
  rotate_left
  · intro w' hSw
    go_simp
    try with_reducible rfl
  try simp only [Act.put, List.setIfInBounds_toArray, List.set_cons_zero, List.set_cons_succ]
  refine wpAnyH_take (i := 13) (oi := { dst := some 71, op := Op.move (Operand.tmp 17), type := 9, pos := "law.go:55", after := #[{ on := 11, ground := Ground.guard }], guard := some (11, true) }) (v := ?_) rfl (by kernel_rfl) (by kernel_rfl) (by kernel_rfl) (fun _ _ _ h => h) (Or.inl ⟨by rfl, ?_⟩) hHeld ?_
  rotate_left
  · intro w' hSw
    go_simp
    try with_reducible rfl
  try simp only [Act.put, List.setIfInBounds_toArray, List.set_cons_zero, List.set_cons_succ]
  refine wpAnyH_take (i := 14) (oi := { dst := some 72, op := Op.binOp BinOp.eql 9 (Operand.tmp 70) (Operand.tmp 71) 9, type := 4, pos := "law.go:55", after := #[{ on := 12, ground := Ground.data }, { on := 13, ground := Ground.data }, { on := 11, ground := Ground.guard }], guard := some (11, true) }) (v := ?_) rfl (by kernel_rfl) (by kernel_rfl) (by kernel_rfl) (fun _ _ _ h => h) (Or.inl ⟨by rfl, ?_⟩) hHeld ?_
  rotate_left
  · intro w' hSw
    go_simp
    try with_reducible rfl
  try simp only [Act.put, List.setIfInBounds_toArray, List.set_cons_zero, List.set_cons_succ]
  refine wpAnyH_take (i := 15) (oi := { dst := some 73, op := Op.pick (Operand.tmp 69) (Operand.tmp 72) (Operand.const (Value.bool false)), type := 4, pos := "law.go:55", after := #[{ on := 11, ground := Ground.data }, { on := 14, ground := Ground.data }], guard := none }) (v := ?_) rfl (by kernel_rfl) (by kernel_rfl) (by kernel_rfl) (fun _ _ _ h => h) (Or.inl ⟨by rfl, ?_⟩) hHeld ?_
  rotate_left
  · intro w' hSw
    go_simp
    try with_reducible rfl
  try simp only [Act.put, List.setIfInBounds_toArray, List.set_cons_zero, List.set_cons_succ]
  refine wpAnyH_take (i := 16) (oi := { dst := some 74, op := Op.move (Operand.tmp 73), type := 4, pos := "law.go:55", after := #[{ on := 15, ground := Ground.data }, { on := 11, ground := Ground.chain }], guard := none }) (v := ?_) rfl (by kernel_rfl) (by kernel_rfl) (by kernel_rfl) (fun _ _ _ h => h) (Or.inl ⟨by rfl, ?_⟩) hHeld ?_
  rotate_left
  · intro w' hSw
    go_simp
    try with_reducible rfl
  try simp only [Act.put, List.setIfInBounds_toArray, List.set_cons_zero, List.set_cons_succ]
  refine wpAnyH_take (i := 17) (oi := { dst := some 75, op := Op.move (Operand.tmp 16), type := 3, pos := "law.go:55", after := #[{ on := 16, ground := Ground.guard }], guard := some (16, true) }) (v := ?_) rfl (by kernel_rfl) (by kernel_rfl) (by kernel_rfl) (fun _ _ _ h => h) (Or.inl ⟨by rfl, ?_⟩) hHeld ?_
  rotate_left
  · intro w' hSw
    go_simp
    try with_reducible rfl
  try simp only [Act.put, List.setIfInBounds_toArray, List.set_cons_zero, List.set_cons_succ]
  refine wpAnyH_take (i := 18) (oi := { dst := some 76, op := Op.move (Operand.tmp 18), type := 3, pos := "law.go:55", after := #[{ on := 16, ground := Ground.guard }], guard := some (16, true) }) (v := ?_) rfl (by kernel_rfl) (by kernel_rfl) (by kernel_rfl) (fun _ _ _ h => h) (Or.inl ⟨by rfl, ?_⟩) hHeld ?_
  rotate_left
  · intro w' hSw
    go_simp
    try with_reducible rfl
  try simp only [Act.put, List.setIfInBounds_toArray, List.set_cons_zero, List.set_cons_succ]
  refine wpAnyH_take (i := 19) (oi := { dst := some 77, op := Op.binOp BinOp.eql 3 (Operand.tmp 75) (Operand.tmp 76) 3, type := 4, pos := "law.go:55", after := #[{ on := 17, ground := Ground.data }, { on := 18, ground := Ground.data }, { on := 16, ground := Ground.guard }], guard := some (16, true) }) (v := ?_) rfl (by kernel_rfl) (by kernel_rfl) (by kernel_rfl) (fun _ _ _ h => h) (Or.inl ⟨by rfl, ?_⟩) hHeld ?_
  rotate_left
  · intro w' hSw
    go_simp
    try with_reducible rfl
  try simp only [Act.put, List.setIfInBounds_toArray, List.set_cons_zero, List.set_cons_succ]
  refine wpAnyH_take (i := 20) (oi := { dst := some 78, op := Op.pick (Operand.tmp 74) (Operand.tmp 77) (Operand.const (Value.bool false)), type := 4, pos := "law.go:55", after := #[{ on := 16, ground := Ground.data }, { on := 19, ground := Ground.data }], guard := none }) (v := ?_) rfl (by kernel_rfl) (by kernel_rfl) (by kernel_rfl) (fun _ _ _ h => h) (Or.inl ⟨by rfl, ?_⟩) hHeld ?_
  rotate_left
  · intro w' hSw
    go_simp
    try with_reducible rfl
  try simp only [Act.put, List.setIfInBounds_toArray, List.set_cons_zero, List.set_cons_succ]
  refine wpAnyH_take (i := 21) (oi := { dst := some 79, op := Op.move (Operand.tmp 78), type := 4, pos := "law.go:55", after := #[{ on := 20, ground := Ground.data }, { on := 16, ground := Ground.chain }], guard := none }) (v := ?_) rfl (by kernel_rfl) (by kernel_rfl) (by kernel_rfl) (fun _ _ _ h => h) (Or.inl ⟨by rfl, ?_⟩) hHeld ?_
  rotate_left
  · intro w' hSw
    go_simp
    try with_reducible rfl
  try simp only [Act.put, List.setIfInBounds_toArray, List.set_cons_zero, List.set_cons_succ]
  refine wpAnyH_take (i := 22) (oi := { dst := some 80, op := Op.move (Operand.tmp 19), type := 22, pos := "law.go:55", after := #[{ on := 21, ground := Ground.guard }], guard := some (21, true) }) (v := ?_) rfl (by kernel_rfl) (by kernel_rfl) (by kernel_rfl) (fun _ _ _ h => h) (Or.inl ⟨by rfl, ?_⟩) hHeld ?_
  rotate_left
  · intro w' hSw
    go_simp
    try with_reducible rfl
  try simp only [Act.put, List.setIfInBounds_toArray, List.set_cons_zero, List.set_cons_succ]
  refine wpAnyH_take (i := 23) (oi := { dst := some 81, op := Op.convert 22 9 (Operand.tmp 80), type := 9, pos := "law.go:55", after := #[{ on := 22, ground := Ground.data }, { on := 21, ground := Ground.guard }], guard := some (21, true) }) (v := ?_) rfl (by kernel_rfl) (by kernel_rfl) (by kernel_rfl) (fun _ _ _ h => h) (Or.inl ⟨by rfl, ?_⟩) hHeld ?_
  rotate_left
  · intro w' hSw
    obtain ⟨y1, y2, y3, y4⟩ := HX.out w' hSw
    go_simp
    try with_reducible rfl
  try simp only [Act.put, List.setIfInBounds_toArray, List.set_cons_zero, List.set_cons_succ]
  refine wpAnyH_take (i := 24) (oi := { dst := some 82, op := Op.move (Operand.tmp 0), type := 22, pos := "law.go:55", after := #[{ on := 21, ground := Ground.guard }], guard := some (21, true) }) (v := ?_) rfl (by kernel_rfl) (by kernel_rfl) (by kernel_rfl) (fun _ _ _ h => h) (Or.inl ⟨by rfl, ?_⟩) hHeld ?_
  rotate_left
  · intro w' hSw
    go_simp
    try with_reducible rfl
  try simp only [Act.put, List.setIfInBounds_toArray, List.set_cons_zero, List.set_cons_succ]
  refine wpAnyH_take (i := 25) (oi := { dst := some 83, op := Op.move (Operand.tmp 1), type := 23, pos := "law.go:55", after := #[{ on := 21, ground := Ground.guard }], guard := some (21, true) }) (v := ?_) rfl (by kernel_rfl) (by kernel_rfl) (by kernel_rfl) (fun _ _ _ h => h) (Or.inl ⟨by rfl, ?_⟩) hHeld ?_
  rotate_left
  · intro w' hSw
    go_simp
    try with_reducible rfl
  try simp only [Act.put, List.setIfInBounds_toArray, List.set_cons_zero, List.set_cons_succ]
  refine wpAnyH_ready (rs := [26]) (by kernel_rfl) (by simp) ?_
  refine AllReadyH.cons (o := { dst := some 84, op := Op.call { callee := Callee.value (Operand.func 14), args := #[Operand.tmp 82, Operand.tmp 83], argTypes := #[22, 23] }, type := 22, pos := "law.go:55", after := #[{ on := 24, ground := Ground.data }, { on := 25, ground := Ground.data }, { on := 21, ground := Ground.chain }, { on := 21, ground := Ground.guard }], guard := some (21, true) }) rfl (fun K hK => ?_) ?_
  rotate_left
  · exact AllReadyH.nil
  go_simp
  refine (rputnum_any _ _ _ l N _ HN.out (by have := HN.out; have := HL.out; omega) (H9.out.2.1.mod hHeld).1 hN).mono ?_
  rintro e w10 ⟨v10, rfl, hO10, hm10⟩
  obtain ⟨a10, k10, rfl⟩ := hO10.val
  rw [hPQ.out.1] at hO10 ⊢
  have z10 := hO10.text
  clear hO10
  refine hK.out _ _ (md_then hHeld hm10) (fun hHeld => ?_)
  clear hK K hm10
  try simp only [Act.put, List.setIfInBounds_toArray, List.set_cons_zero, List.set_cons_succ]
  refine wpAnyH_ready (rs := [27]) (by kernel_rfl) (by simp) ?_
  refine AllReadyH.cons (o := { dst := some 85, op := Op.convert 22 9 (Operand.tmp 84), type := 9, pos := "law.go:55", after := #[{ on := 26, ground := Ground.data }, { on := 21, ground := Ground.guard }], guard := some (21, true) }) rfl (fun K hK => ?_) ?_
  rotate_left
  · exact AllReadyH.nil
  go_simp
  refine hK.out _ _ hHeld (fun hHeld => ?_)
  clear hK K
  try simp only [Act.put, List.setIfInBounds_toArray, List.set_cons_zero, List.set_cons_succ]
  refine wpAnyH_take (i := 28) (oi := { dst := some 86, op := Op.binOp BinOp.eql 9 (Operand.tmp 81) (Operand.tmp 85) 9, type := 4, pos := "law.go:55", after := #[{ on := 23, ground := Ground.data }, { on := 27, ground := Ground.data }, { on := 21, ground := Ground.guard }], guard := some (21, true) }) (v := ?_) rfl (by kernel_rfl) (by kernel_rfl) (by kernel_rfl) (fun _ _ _ h => h) (Or.inl ⟨by rfl, ?_⟩) hHeld ?_
  rotate_left
  · intro w' hSw
    go_simp
    try with_reducible rfl
  try simp only [Act.put, List.setIfInBounds_toArray, List.set_cons_zero, List.set_cons_succ]
  refine wpAnyH_take (i := 29) (oi := { dst := some 87, op := Op.pick (Operand.tmp 79) (Operand.tmp 86) (Operand.const (Value.bool false)), type := 4, pos := "law.go:55", after := #[{ on := 21, ground := Ground.data }, { on := 28, ground := Ground.data }], guard := none }) (v := ?_) rfl (by kernel_rfl) (by kernel_rfl) (by kernel_rfl) (fun _ _ _ h => h) (Or.inl ⟨by rfl, ?_⟩) hHeld ?_
  rotate_left
  · intro w' hSw
    go_simp
    try with_reducible rfl
  try simp only [Act.put, List.setIfInBounds_toArray, List.set_cons_zero, List.set_cons_succ]
  refine wpAnyH_take (i := 30) (oi := { dst := some 88, op := Op.move (Operand.tmp 87), type := 4, pos := "law.go:55", after := #[{ on := 29, ground := Ground.data }, { on := 26, ground := Ground.chain }], guard := none }) (v := ?_) rfl (by kernel_rfl) (by kernel_rfl) (by kernel_rfl) (fun _ _ _ h => h) (Or.inl ⟨by rfl, ?_⟩) hHeld ?_
  rotate_left
  · intro w' hSw
    go_simp
    try with_reducible rfl
  try simp only [Act.put, List.setIfInBounds_toArray, List.set_cons_zero, List.set_cons_succ]
  refine wpAnyH_take (i := 31) (oi := { dst := some 89, op := Op.move (Operand.tmp 20), type := 22, pos := "law.go:55", after := #[{ on := 30, ground := Ground.guard }], guard := some (30, true) }) (v := ?_) rfl (by kernel_rfl) (by kernel_rfl) (by kernel_rfl) (fun _ _ _ h => h) (Or.inl ⟨by rfl, ?_⟩) hHeld ?_
  rotate_left
  · intro w' hSw
    go_simp
    try with_reducible rfl
  try simp only [Act.put, List.setIfInBounds_toArray, List.set_cons_zero, List.set_cons_succ]
  refine wpAnyH_take (i := 32) (oi := { dst := some 90, op := Op.convert 22 9 (Operand.tmp 89), type := 9, pos := "law.go:55", after := #[{ on := 31, ground := Ground.data }, { on := 30, ground := Ground.guard }], guard := some (30, true) }) (v := ?_) rfl (by kernel_rfl) (by kernel_rfl) (by kernel_rfl) (fun _ _ _ h => h) (Or.inl ⟨by rfl, ?_⟩) hHeld ?_
  rotate_left
  · intro w' hSw
    obtain ⟨y1, y2, y3, y4⟩ := HX.out w' hSw
    go_simp
    try with_reducible rfl
  try simp only [Act.put, List.setIfInBounds_toArray, List.set_cons_zero, List.set_cons_succ]
  refine wpAnyH_take (i := 33) (oi := { dst := some 91, op := Op.move (Operand.tmp 0), type := 22, pos := "law.go:55", after := #[{ on := 30, ground := Ground.guard }], guard := some (30, true) }) (v := ?_) rfl (by kernel_rfl) (by kernel_rfl) (by kernel_rfl) (fun _ _ _ h => h) (Or.inl ⟨by rfl, ?_⟩) hHeld ?_
  rotate_left
  · intro w' hSw
    go_simp
    try with_reducible rfl
  try simp only [Act.put, List.setIfInBounds_toArray, List.set_cons_zero, List.set_cons_succ]
  refine wpAnyH_take (i := 34) (oi := { dst := some 92, op := Op.move (Operand.tmp 2), type := 9, pos := "law.go:55", after := #[{ on := 30, ground := Ground.guard }], guard := some (30, true) }) (v := ?_) rfl (by kernel_rfl) (by kernel_rfl) (by kernel_rfl) (fun _ _ _ h => h) (Or.inl ⟨by rfl, ?_⟩) hHeld ?_
  rotate_left
  · intro w' hSw
    go_simp
    try with_reducible rfl
  try simp only [Act.put, List.setIfInBounds_toArray, List.set_cons_zero, List.set_cons_succ]
  refine wpAnyH_ready (rs := [35]) (by kernel_rfl) (by simp) ?_
  refine AllReadyH.cons (o := { dst := some 93, op := Op.call { callee := Callee.value (Operand.func 15), args := #[Operand.tmp 91, Operand.tmp 92], argTypes := #[22, 9] }, type := 22, pos := "law.go:55", after := #[{ on := 33, ground := Ground.data }, { on := 34, ground := Ground.data }, { on := 30, ground := Ground.chain }, { on := 30, ground := Ground.guard }], guard := some (30, true) }) rfl (fun K hK => ?_) ?_
  rotate_left
  · exact AllReadyH.nil
  go_simp
  refine (rputtext_any _ _ _ l s _ HN.out (by have := HN.out; have := HL.out; omega) hs (H9.out.2.1.mod hHeld).1).mono ?_
  rintro e w11 ⟨v11, rfl, hO11, hm11⟩
  obtain ⟨a11, k11, rfl⟩ := hO11.val
  rw [hPQ.out.2] at hO11 ⊢
  have z11 := hO11.text
  clear hO11 z10
  refine hK.out _ _ (md_then hHeld hm11) (fun hHeld => ?_)
  clear hK K hm11
  try simp only [Act.put, List.setIfInBounds_toArray, List.set_cons_zero, List.set_cons_succ]
  refine wpAnyH_ready (rs := [36]) (by kernel_rfl) (by simp) ?_
  refine AllReadyH.cons (o := { dst := some 94, op := Op.convert 22 9 (Operand.tmp 93), type := 9, pos := "law.go:55", after := #[{ on := 35, ground := Ground.data }, { on := 30, ground := Ground.guard }], guard := some (30, true) }) rfl (fun K hK => ?_) ?_
  rotate_left
  · exact AllReadyH.nil
  go_simp
  refine hK.out _ _ hHeld (fun hHeld => ?_)
  clear hK K
  try simp only [Act.put, List.setIfInBounds_toArray, List.set_cons_zero, List.set_cons_succ]
  refine wpAnyH_take (i := 37) (oi := { dst := some 95, op := Op.binOp BinOp.eql 9 (Operand.tmp 90) (Operand.tmp 94) 9, type := 4, pos := "law.go:55", after := #[{ on := 32, ground := Ground.data }, { on := 36, ground := Ground.data }, { on := 30, ground := Ground.guard }], guard := some (30, true) }) (v := ?_) rfl (by kernel_rfl) (by kernel_rfl) (by kernel_rfl) (fun _ _ _ h => h) (Or.inl ⟨by rfl, ?_⟩) hHeld ?_
  rotate_left
  · intro w' hSw
    go_simp
    try with_reducible rfl
  try simp only [Act.put, List.setIfInBounds_toArray, List.set_cons_zero, List.set_cons_succ]
  refine wpAnyH_take (i := 38) (oi := { dst := some 96, op := Op.pick (Operand.tmp 88) (Operand.tmp 95) (Operand.const (Value.bool false)), type := 4, pos := "law.go:55", after := #[{ on := 30, ground := Ground.data }, { on := 37, ground := Ground.data }], guard := none }) (v := ?_) rfl (by kernel_rfl) (by kernel_rfl) (by kernel_rfl) (fun _ _ _ h => h) (Or.inl ⟨by rfl, ?_⟩) hHeld ?_
  rotate_left
  · intro w' hSw
    go_simp
    try with_reducible rfl
  try simp only [Act.put, List.setIfInBounds_toArray, List.set_cons_zero, List.set_cons_succ]
  refine wpAnyH_take (i := 39) (oi := { dst := some 97, op := Op.move (Operand.tmp 96), type := 4, pos := "law.go:55", after := #[{ on := 38, ground := Ground.data }, { on := 35, ground := Ground.chain }], guard := none }) (v := ?_) rfl (by kernel_rfl) (by kernel_rfl) (by kernel_rfl) (fun _ _ _ h => h) (Or.inl ⟨by rfl, ?_⟩) hHeld ?_
  rotate_left
  · intro w' hSw
    go_simp
    try with_reducible rfl
  try simp only [Act.put, List.setIfInBounds_toArray, List.set_cons_zero, List.set_cons_succ]
  refine wpAnyH_take (i := 40) (oi := { dst := some 98, op := Op.move (Operand.tmp 10), type := 22, pos := "law.go:55", after := #[{ on := 39, ground := Ground.guard }], guard := some (39, true) }) (v := ?_) rfl (by kernel_rfl) (by kernel_rfl) (by kernel_rfl) (fun _ _ _ h => h) (Or.inl ⟨by rfl, ?_⟩) hHeld ?_
  rotate_left
  · intro w' hSw
    go_simp
    try with_reducible rfl
  try simp only [Act.put, List.setIfInBounds_toArray, List.set_cons_zero, List.set_cons_succ]
  refine wpAnyH_take (i := 41) (oi := { dst := some 99, op := Op.move (Operand.tmp 0), type := 22, pos := "law.go:55", after := #[{ on := 39, ground := Ground.guard }], guard := some (39, true) }) (v := ?_) rfl (by kernel_rfl) (by kernel_rfl) (by kernel_rfl) (fun _ _ _ h => h) (Or.inl ⟨by rfl, ?_⟩) hHeld ?_
  rotate_left
  · intro w' hSw
    go_simp
    try with_reducible rfl
  try simp only [Act.put, List.setIfInBounds_toArray, List.set_cons_zero, List.set_cons_succ]
  refine wpAnyH_take (i := 42) (oi := { dst := some 100, op := Op.call { callee := Callee.builtin Builtin.len, args := #[Operand.tmp 99], argTypes := #[22] }, type := 3, pos := "law.go:55", after := #[{ on := 41, ground := Ground.data }, { on := 39, ground := Ground.guard }], guard := some (39, true) }) (v := ?_) rfl (by kernel_rfl) (by kernel_rfl) (by kernel_rfl) (fun _ _ _ h => h) (Or.inl ⟨by rfl, ?_⟩) hHeld ?_
  rotate_left
  · intro w' hSw
    go_simp
    try with_reducible rfl
  try simp only [Act.put, List.setIfInBounds_toArray, List.set_cons_zero, List.set_cons_succ]
  refine wpAnyH_take (i := 43) (oi := { dst := some 101, op := Op.binOp BinOp.add 3 (Operand.tmp 100) (Operand.const (Value.int IntKind.i64 1)) 3, type := 3, pos := "law.go:55", after := #[{ on := 42, ground := Ground.data }, { on := 39, ground := Ground.guard }], guard := some (39, true) }) (v := ?_) rfl (by kernel_rfl) (by kernel_rfl) (by kernel_rfl) (fun _ _ _ h => h) (Or.inl ⟨by rfl, ?_⟩) hHeld ?_
  rotate_left
  · intro w' hSw
    go_simp
    try with_reducible rfl
  try simp only [Act.put, List.setIfInBounds_toArray, List.set_cons_zero, List.set_cons_succ]
  refine wpAnyH_take (i := 44) (oi := { dst := some 102, op := Op.slice 22 (Operand.tmp 98) none (some (Operand.tmp 101)) none, type := 22, pos := "law.go:55", after := #[{ on := 40, ground := Ground.data }, { on := 43, ground := Ground.data }, { on := 39, ground := Ground.guard }], guard := some (39, true) }) (v := ?_) rfl (by kernel_rfl) (by kernel_rfl) (by kernel_rfl) (fun _ _ _ h => h) (Or.inl ⟨by rfl, ?_⟩) hHeld ?_
  rotate_left
  · intro w' hSw
    go_simp
    try with_reducible rfl
  try simp only [Act.put, List.setIfInBounds_toArray, List.set_cons_zero, List.set_cons_succ]
  refine wpAnyH_take (i := 45) (oi := { dst := some 103, op := Op.convert 22 9 (Operand.tmp 102), type := 9, pos := "law.go:55", after := #[{ on := 44, ground := Ground.data }, { on := 39, ground := Ground.guard }], guard := some (39, true) }) (v := ?_) rfl (by kernel_rfl) (by kernel_rfl) (by kernel_rfl) (fun _ _ _ h => h) (Or.inl ⟨by rfl, ?_⟩) hHeld ?_
  rotate_left
  · intro w' hSw
    obtain ⟨y1, y2, y3, y4⟩ := HX.out w' hSw
    go_simp
    try with_reducible rfl
  try simp only [Act.put, List.setIfInBounds_toArray, List.set_cons_zero, List.set_cons_succ]
  refine wpAnyH_take (i := 46) (oi := { dst := some 104, op := Op.move (Operand.tmp 0), type := 22, pos := "law.go:55", after := #[{ on := 39, ground := Ground.guard }], guard := some (39, true) }) (v := ?_) rfl (by kernel_rfl) (by kernel_rfl) (by kernel_rfl) (fun _ _ _ h => h) (Or.inl ⟨by rfl, ?_⟩) hHeld ?_
  rotate_left
  · intro w' hSw
    go_simp
    try with_reducible rfl
  try simp only [Act.put, List.setIfInBounds_toArray, List.set_cons_zero, List.set_cons_succ]
  refine wpAnyH_take (i := 47) (oi := { dst := some 105, op := Op.convert 22 9 (Operand.tmp 104), type := 9, pos := "law.go:55", after := #[{ on := 46, ground := Ground.data }, { on := 39, ground := Ground.guard }], guard := some (39, true) }) (v := ?_) rfl (by kernel_rfl) (by kernel_rfl) (by kernel_rfl) (fun _ _ _ h => h) (Or.inl ⟨by rfl, ?_⟩) hHeld ?_
  rotate_left
  · intro w' hSw
    obtain ⟨y1, y2, y3, y4⟩ := HX.out w' hSw
    go_simp
    try with_reducible rfl
  try simp only [Act.put, List.setIfInBounds_toArray, List.set_cons_zero, List.set_cons_succ]
  refine wpAnyH_take (i := 48) (oi := { dst := some 106, op := Op.binOp BinOp.add 9 (Operand.tmp 105) (Operand.const (Value.string { data := #[99] })) 9, type := 9, pos := "law.go:55", after := #[{ on := 47, ground := Ground.data }, { on := 39, ground := Ground.guard }], guard := some (39, true) }) (v := ?_) rfl (by kernel_rfl) (by kernel_rfl) (by kernel_rfl) (fun _ _ _ h => h) (Or.inl ⟨by rfl, ?_⟩) hHeld ?_
  rotate_left
  · intro w' hSw
    go_simp
    try with_reducible rfl
  try simp only [Act.put, List.setIfInBounds_toArray, List.set_cons_zero, List.set_cons_succ]
  refine wpAnyH_take (i := 49) (oi := { dst := some 107, op := Op.binOp BinOp.eql 9 (Operand.tmp 103) (Operand.tmp 106) 9, type := 4, pos := "law.go:55", after := #[{ on := 45, ground := Ground.data }, { on := 48, ground := Ground.data }, { on := 39, ground := Ground.guard }], guard := some (39, true) }) (v := ?_) rfl (by kernel_rfl) (by kernel_rfl) (by kernel_rfl) (fun _ _ _ h => h) (Or.inl ⟨by rfl, ?_⟩) hHeld ?_
  rotate_left
  · intro w' hSw
    go_simp
    try with_reducible rfl
  try simp only [Act.put, List.setIfInBounds_toArray, List.set_cons_zero, List.set_cons_succ]
  refine wpAnyH_take (i := 50) (oi := { dst := some 108, op := Op.pick (Operand.tmp 97) (Operand.tmp 107) (Operand.const (Value.bool false)), type := 4, pos := "law.go:55", after := #[{ on := 39, ground := Ground.data }, { on := 49, ground := Ground.data }], guard := none }) (v := ?_) rfl (by kernel_rfl) (by kernel_rfl) (by kernel_rfl) (fun _ _ _ h => h) (Or.inl ⟨by rfl, ?_⟩) hHeld ?_
  rotate_left
  · intro w' hSw
    go_simp
    try with_reducible rfl
  try simp only [Act.put, List.setIfInBounds_toArray, List.set_cons_zero, List.set_cons_succ]
  refine wpAnyH_take (i := 51) (oi := { dst := some 8, op := Op.assign (Operand.tmp 108), type := 4, pos := "law.go:55", after := #[{ on := 50, ground := Ground.data }, { on := 39, ground := Ground.chain }, { on := 0, ground := Ground.phase }, { on := 1, ground := Ground.phase }, { on := 2, ground := Ground.phase }, { on := 3, ground := Ground.phase }, { on := 4, ground := Ground.phase }, { on := 5, ground := Ground.phase }, { on := 6, ground := Ground.phase }, { on := 7, ground := Ground.phase }, { on := 8, ground := Ground.phase }, { on := 9, ground := Ground.phase }, { on := 10, ground := Ground.phase }, { on := 11, ground := Ground.phase }, { on := 12, ground := Ground.phase }, { on := 13, ground := Ground.phase }, { on := 14, ground := Ground.phase }, { on := 15, ground := Ground.phase }, { on := 16, ground := Ground.phase }, { on := 17, ground := Ground.phase }, { on := 18, ground := Ground.phase }, { on := 19, ground := Ground.phase }, { on := 20, ground := Ground.phase }, { on := 21, ground := Ground.phase }, { on := 22, ground := Ground.phase }, { on := 23, ground := Ground.phase }, { on := 24, ground := Ground.phase }, { on := 25, ground := Ground.phase }, { on := 26, ground := Ground.phase }, { on := 27, ground := Ground.phase }, { on := 28, ground := Ground.phase }, { on := 29, ground := Ground.phase }, { on := 30, ground := Ground.phase }, { on := 31, ground := Ground.phase }, { on := 32, ground := Ground.phase }, { on := 33, ground := Ground.phase }, { on := 34, ground := Ground.phase }, { on := 35, ground := Ground.phase }, { on := 36, ground := Ground.phase }, { on := 37, ground := Ground.phase }, { on := 38, ground := Ground.phase }, { on := 39, ground := Ground.phase }, { on := 40, ground := Ground.phase }, { on := 41, ground := Ground.phase }, { on := 42, ground := Ground.phase }, { on := 43, ground := Ground.phase }, { on := 44, ground := Ground.phase }, { on := 45, ground := Ground.phase }, { on := 46, ground := Ground.phase }, { on := 47, ground := Ground.phase }, { on := 48, ground := Ground.phase }, { on := 49, ground := Ground.phase }, { on := 50, ground := Ground.phase }], guard := none }) (v := ?_) rfl (by kernel_rfl) (by kernel_rfl) (by kernel_rfl) (fun _ _ _ h => h) (Or.inl ⟨by rfl, ?_⟩) hHeld ?_
  rotate_left
  · intro w' hSw
    go_simp
    try with_reducible rfl
  try simp only [Act.put, List.setIfInBounds_toArray, List.set_cons_zero, List.set_cons_succ]
  refine wpAnyH_done (by kernel_rfl) ?_ _
  go_wp2_with (fail)
  go_ret
  exact ⟨rfl, md_then H9.out.1 hHeld⟩
end Go.Proofs.YtealopafgipimaaDoor
