/-
  strings.NewReplacer, and what it builds when it is first asked.
-/
import Derived.Test.YtokojeiiobhciaaDoorMg
import Derived.Test.YtokojeiiobhciaaDoorCat
import Derived.Shelf.Abstract
namespace Go.Proofs.YtokojeiiobhciaaDoor
open Go.RowKit Mem
set_option linter.unusedVariables false
set_option linter.unusedSimpArgs false

theorem info_s : (Tryd.prog.info? 9).map (fun i => (i.zero, i.size, i.bytes)) = some (some (.string ByteArray.empty), 1, 16) := by kernel_rfl
theorem el_s : El Tryd.prog 23 9 1 16 := El.mk_ Tryd.underlying23 info_s rfl (by decide)
/-- The four texts, somewhere. -/
def Four (w : World) (o : Nat) : Prop := ∃ rs : Array Value, Blk w o rs 9 ∧ rs[0]? = some (.string (sv key0)) ∧ rs[1]? = some (.string (sv ss)) ∧ rs[2]? = some (.string (sv key2)) ∧ rs[3]? = some (.string (sv ss))
/-- A replacer's cells. -/
def repC (d st : Int) (r ol : Value) : Array Value := #[.int .u32 d, .int .i32 st, .int .u32 0, r, ol]
set_option maxRecDepth 100000 in
set_option maxHeartbeats 1600000 in
theorem build_any (b o c : Nat) (w : World) (hc4 : 4 ≤ c) (h4 : w.cell? ⟨b, 4, none⟩ = some (.slice (some ⟨o, 0, none⟩) 4 c)) (ho : Four w o) :
    Calls Tryd.prog 53 #[.pointer (some ⟨b, 0, none⟩)] w fun e w' => ∃ g tb, e = .returned (.iface 107 (.pointer (some ⟨g, 0, none⟩))) ∧ StT w g tb 4 w' := by
  obtain ⟨rs, hb, r0, r1, r2, r3⟩ := ho
  have o0 : w.cell? ⟨o, 0, none⟩ = some (.string (sv key0)) := by rw [hb.cell]; exact r0
  have hs0 : (sv key0).size = 2 := rfl
  have hmk := make_any o c rs w hc4 hb r0 r1 r2 r3
  clear hb r0 r1 r2 r3
  go_enter Tryd.func53, Tryd.ntmps53
  go_wp2_with (fail)
  go_loopw [5] (fun v wr => v = .int .i64 0 ∧ wr = w) (fun _ _ => 0)
  case atStart => exact ⟨rfl, rfl⟩
  case round =>
    obtain ⟨rfl, rfl⟩ := hrel
    go_wp2_with (fail)
    refine hmk.mono ?_
    rintro e w' ⟨g, tb, rfl, hS⟩
    have HS := Lib.hid hS
    clear hS
    go_wp2
    go_ret
    exact ⟨g, tb, rfl, HS.out⟩
set_option maxRecDepth 100000 in
set_option maxHeartbeats 1600000 in
theorem newrep_any (w : World) (o : Nat) (ho : Four w o) :
    Calls Tryd.prog 25 #[.slice (some ⟨o, 0, none⟩) 4 4] w fun e w' => ∃ b o' c, e = .returned (.pointer (some ⟨b, 0, none⟩)) ∧ 4 ≤ c ∧ Blk w' b (repC 0 0 .nilIface (.slice (some ⟨o', 0, none⟩) 4 c)) 87 ∧ Four w' o' ∧ w.heap.size ≤ o' ∧ w.heap.size ≤ b ∧ Mod (fun _ => False) w w' := by
  obtain ⟨rs, hb, r0, r1, r2, r3⟩ := ho
  have hcells : ∀ j u, ([.string (sv key0), .string (sv ss), .string (sv key2), .string (sv ss)] : List Value)[j]? = some u → w.cell? ((⟨o, 0, none⟩ : Addr).add j) = some u := fun j u hu => by
    rw [Addr.add_lit, Nat.zero_add, hb.cell]
    match j, hu with
    | 0, hu => rw [r0]; exact hu
    | 1, hu => rw [r1]; exact hu
    | 2, hu => rw [r2]; exact hu
    | 3, hu => rw [r3]; exact hu
    | j + 4, hu => simp at hu
  obtain ⟨A, k, w1, hrun, hown, hm, hv, hs⟩ := el_s.app w.heap.size 0 (.slice none 0 0) [] w (World.ownsRow_nil _ _ _ _) ⟨o, 0, none⟩ 4 4 [.string (sv key0), .string (sv ss), .string (sv key2), .string (sv ss)] (by decide) (by decide) rfl hcells (by intro u hu; simp at hu; rcases hu with rfl | rfl | rfl | rfl <;> rfl) (Nat.le_refl _)
  obtain ⟨o', rfl⟩ := hs (.inr (by decide))
  have HM := Lib.hid (hm.mono (T := fun _ => False) (fun i hi => by simp [Value.ownBlock] at hi))
  have HO : Hid (4 ≤ k ∧ Four w1 o' ∧ w.heap.size ≤ o') := Lib.hid (by
    rcases own_cases hown with ⟨h, _⟩ | ⟨g, cap, cur, hv, hg, hB, hn, hc, hs, hx⟩
    · cases h
    · injection hv with e1 e2 e3
      injection e1 with e1
      injection e1 with e1
      subst e1 e3
      have hget : ∀ j u, ([.string (sv key0), .string (sv ss), .string (sv key2), .string (sv ss)] : List Value)[j]? = some u → cur[j]? = some u := fun j u hu => by
        have hj : j < 4 := (List.getElem?_eq_some_iff.1 hu).1
        have hu' : (cur.toList.take 4)[j]? = some u := by
          have hx' : cur.toList.take 4 = [.string (sv key0), .string (sv ss), .string (sv key2), .string (sv ss)] := hx
          rw [hx']; exact hu
        rw [List.getElem?_take_of_lt hj] at hu'
        simpa using hu'
      exact ⟨hn, ⟨cur, hB, hget 0 _ rfl, hget 1 _ rfl, hget 2 _ rfl, hget 3 _ rfl⟩, hg⟩)
  clear hb r0 r1 r2 r3 hcells hown hm hv hs
  go_enter Tryd.func25, Tryd.ntmps25
  go_wp2_with (at_builtin; refine wpList_append_run rfl _ _ 23 23 rfl _ _ rfl rfl hrun ?_)
  go_ret
  exact ⟨w1.heap.size, o', k, rfl, HO.out.1, Blk.new w1 _ _, (by
    obtain ⟨rs', hb', r⟩ := HO.out.2.1
    exact ⟨rs', hb'.alloc _, r⟩), HO.out.2.2, HM.out.size, HM.out.alloc _⟩
/-- What a replacer has built. -/
def Tri (w : World) (g tb : Nat) : Prop := Blk w g (gC (.slice (some ⟨tb, 0, none⟩) 5 5) 5 (gM 256)) 127 ∧
  ∃ n m n' m', Blk w tb (t2 n n') 122 ∧ Node w n [] 0 [159] (some m) ∧ Node w m ss 4 [] none ∧ Node w n' [] 0 [186, 158] (some m') ∧ Node w m' ss 2 [] none
theorem StT.tri {w w' : World} {g tb : Nat} (h : StT w g tb 4 w') : Tri w' g tb := by
  obtain ⟨h1, _, _, _, h2⟩ := h
  refine ⟨h1, ?_⟩
  rcases h2 with ⟨h, _⟩ | ⟨h, _⟩ | ⟨_, n, m, n', m', r⟩
  · omega
  · omega
  · exact ⟨n, m, n', m', r⟩
theorem Tri.mod {S : Nat → Prop} {w w' : World} {g tb : Nat} (h : Tri w g tb) (hm : Mod S w w') (hS : ∀ k cs T, Blk w k cs T → T ≠ 87 → ¬ S k) : Tri w' g tb := by
  obtain ⟨h1, n, m, n', m', h2, h3, h4, h5, h6⟩ := h
  exact ⟨h1.mod hm (hS _ _ _ h1 (by decide)), n, m, n', m', h2.mod hm (hS _ _ _ h2 (by decide)), Blk.mod h3 hm (hS _ _ _ h3 (by decide)), Blk.mod h4 hm (hS _ _ _ h4 (by decide)), Blk.mod h5 hm (hS _ _ _ h5 (by decide)), Blk.mod h6 hm (hS _ _ _ h6 (by decide))⟩
set_option maxRecDepth 100000 in
set_option maxHeartbeats 1600000 in
theorem once_any (b o c : Nat) (d st : Int) (w : World) (hc4 : 4 ≤ c) (hb : Blk w b (repC d st .nilIface (.slice (some ⟨o, 0, none⟩) 4 c)) 87) (ho : Four w o) :
    Calls Tryd.prog 42 #[.pointer (some ⟨b, 0, none⟩)] w fun e w' => e = .returned (.tuple #[]) ∧ ∃ g tb, Blk w' b (repC d st (.iface 107 (.pointer (some ⟨g, 0, none⟩))) (.slice none 0 0)) 87 ∧ Tri w' g tb ∧ Mod (· = b) w w' := by
  have hbd := build_any b o c w hc4 (hb.cell 4) ho
  have H := Lib.hid hb
  clear hb ho
  go_enter Tryd.func42, Tryd.ntmps42
  go_wp2_with (fail)
  refine hbd.mono ?_
  rintro e w2 ⟨g, tb, rfl, hS⟩
  have hB2 := H.out.mod hS.2.1 (fun h => h)
  have c3 : w2.cell? ⟨b, 3, none⟩ = some .nilIface := hB2.cell 3
  have c4 : w2.cell? ⟨b, 4, none⟩ = some (.slice (some ⟨o, 0, none⟩) 4 c) := hB2.cell 4
  have z3 := hB2.frozen 3
  have z4 := hB2.frozen 4
  have HB2 := Lib.hid hB2
  have HS := Lib.hid hS
  clear hbd hB2 hS
  go_wp2
  first | go_end0 | refine bodyPost_ret (results_none rfl _ _ _) rfl ?_
  have hm : Mod (· = b) w2 ((w2.setCell ⟨b, 3, none⟩ (.iface 107 (.pointer (some ⟨g, 0, none⟩)))).setCell ⟨b, 4, none⟩ (.slice none 0 0)) := Mod.setCell (S := (· = b)) (Mod.setCell (S := (· = b)) (Mod.refl _ w2) (p := ⟨b, 3, none⟩) (.inl rfl) _) (p := ⟨b, 4, none⟩) (.inl rfl) _
  exact ⟨rfl, g, tb, (HB2.out.set 3 _).set 4 _, HS.out.tri.mod hm (fun k cs T hk hT e => hT (by have e : k = b := e; subst e; exact Classical.byContradiction (fun hne => Blk.ne hk HB2.out hne rfl))), (HS.out.2.1.mono (fun _ h => h.elim)).trans hm (fun j hj => .inl hj)⟩
set_option maxRecDepth 100000 in
set_option maxHeartbeats 1600000 in
/-- The first time that it is asked: what is built. -/
theorem do_build (b o c : Nat) (w : World) (hc4 : 4 ≤ c) (hb : Blk w b (repC 0 0 .nilIface (.slice (some ⟨o, 0, none⟩) 4 c)) 87) (ho : Four w o) :
    Calls Tryd.prog 41 #[.pointer (some ⟨b, 0, none⟩), .func (.func 42) #[.pointer (some ⟨b, 0, none⟩)] #[]] w fun e w' => e = .returned (.tuple #[]) ∧ ∃ g tb, Blk w' b (repC 1 0 (.iface 107 (.pointer (some ⟨g, 0, none⟩))) (.slice none 0 0)) 87 ∧ Tri w' g tb ∧ Mod (· = b) w w' := by
  have hm1 : Mod (· = b) w (w.setCell ⟨b, 1, none⟩ (.int .i32 1)) := Mod.setCell (S := (· = b)) (Mod.refl _ w) (p := ⟨b, 1, none⟩) (.inl rfl) _
  obtain ⟨rs, hrs, hr⟩ := ho
  have hne : ¬ o = b := Blk.ne hrs hb (by decide)
  have hO : Four (w.setCell ⟨b, 1, none⟩ (.int .i32 1)) o := ⟨rs, hrs.mod hm1 hne, hr⟩
  have hB : Blk (w.setCell ⟨b, 1, none⟩ (.int .i32 1)) b (repC 0 1 .nilIface (.slice (some ⟨o, 0, none⟩) 4 c)) 87 := hb.set 1 _
  refine (do_first b 42 #[.pointer (some ⟨b, 0, none⟩)] #[] w (fun w2 => ∃ g tb, Blk w2 b (repC 0 1 (.iface 107 (.pointer (some ⟨g, 0, none⟩))) (.slice none 0 0)) 87 ∧ Tri w2 g tb ∧ Mod (· = b) w w2) (hb.cell 0) (hb.cell 1) (hb.frozen 0) (hb.frozen 1) (enters_of Tryd.func42 (by kernel_rfl) rfl _) ?_).mono ?_
  · refine (once_any b o c 0 1 _ hc4 hB hO).mono ?_
    rintro e w2 ⟨he, g, tb, h1, h2, h3⟩
    exact ⟨he, ⟨g, tb, h1, h2, hm1.trans h3 (fun j hj => .inl hj)⟩, h1.cell 0, h1.cell 1, h1.frozen 0, h1.frozen 1⟩
  · rintro e w' ⟨he, w2, ⟨g, tb, h1, h2, h3⟩, rfl⟩
    have hm : Mod (· = b) w2 ((w2.drew.setCell ⟨b, 0, none⟩ (.int .u32 1)).setCell ⟨b, 1, none⟩ (.int .i32 0)) := Mod.setCell (S := (· = b)) (Mod.setCell (S := (· = b)) (Mod.refl _ w2).drew (p := ⟨b, 0, none⟩) (.inl rfl) _) (p := ⟨b, 1, none⟩) (.inl rfl) _
    exact ⟨he, g, tb, (h1.drew.set 0 _).set 1 _, h2.mod hm (fun k cs T hk hT e => hT (by have e : k = b := e; subst e; exact Classical.byContradiction (fun hne => Blk.ne hk h1 hne rfl))), h3.trans hm (fun j hj => .inl hj)⟩
end Go.Proofs.YtokojeiiobhciaaDoor
