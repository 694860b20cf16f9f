/-
  New, and Append.
-/
import Derived.Test.YtoceddcppbddnaaDi
namespace Go.Proofs.Ytoceddcppbddnaa
open Go.RowKit Mem Go.Maps
set_option linter.unusedVariables false
set_option linter.unusedSimpArgs false

set_option maxHeartbeats 800000 in
theorem new_any (w : World) (room : Int) (hr : -9223372036854775808 ≤ room ∧ room ≤ 9223372036854775807) : Calls Try.prog 10 #[.int .i64 room] w fun e w' => ∃ d X, e = .returned (.pointer (some ⟨d, 0, none⟩)) ∧ At w' d X ∧ abs X = ⟨max 0 room, [], false, none, 0⟩ ∧ Mod (fun _ => False) w w' ∧ ∀ s, Foot d X s → w.heap.size ≤ s := by
  have hmm := @run_makeMap Try.prog
  obtain ⟨m, hm⟩ : ∃ m, max 0 room = m := ⟨_, rfl⟩
  have hm0 : 0 ≤ m ∧ m ≤ 9223372036854775807 := by omega
  have HM := Lib.hid hm
  go_enter Try.func10, Try.ntmps10
  go_wp2
  go_ret
  have hMod : Mod (fun _ => False) w (w.alloc (.map #[] 0)) := (Mod.refl _ w).alloc _
  have hsz : (w.alloc (.map #[] 0)).heap.size = w.heap.size + 1 := by simp
  refine ⟨w.heap.size + 1, ⟨m, [], false, none, 0, w.heap.size⟩, rfl, ⟨?_, ?_, ?_, ?_, List.Pairwise.nil, hm0, ⟨Int.le_refl _, by show (0 : Int) ≤ 1000000; decide⟩, Nat.zero_le _⟩, by rw [HM.out]; rfl, hMod.alloc _, ?_⟩
  · have := Blk.new (w.alloc (.map #[] 0)) #[.int .i64 m, .map (some w.heap.size), .bool false, .pointer none, .int .i64 0] 56
    rw [hsz] at this
    exact this
  · exact (PM.made w).mod ((Mod.refl (fun _ => False) _).alloc _) (fun h => h)
  · intro g a k hk
    cases hk
  · intro f hf
    cases hf
  · rintro s (rfl | rfl | ⟨a, k, hk⟩ | ⟨x, hx, _⟩)
    · exact Nat.le_succ _
    · exact Nat.le_refl _
    · cases hk
    · cases hx
/-- A file grown: what append and the store leave. -/
theorem At.grow {w : World} {d : Nat} {X : Dk} (h : At w d X) {f : Fr} (hf : f ∈ X.L) {x : Value} {b : Bs} (hr : Rd w x b) (hl : f.b.length + b.length ≤ 1099511627776) :
    ∃ a' k' c' w1, (Builtin.append_ #[22, 22] 22 #[f.v, x]).run Try.prog w = .ok (.slice a' k' c') w1 ∧ w1.cell? ⟨f.g, 0, none⟩ = some f.v ∧ w1.frozen? ⟨f.g, 0, none⟩ = false ∧ Done w (w1.setCell ⟨f.g, 0, none⟩ (.slice a' k' c')) d X { X with L := updL X.L ⟨f.name, f.b ++ b, f.n, f.g, .slice a' k' c'⟩ } := by
  have hF := h.files f hf
  obtain ⟨v', w1, hrun, hfb, hm, ho⟩ := hF.fb.app hr (by omega)
  have hne : ∀ y, f.v.ownBlock = some y → f.g ≠ y := fun y hy => ne_cells (U := 5) hF.blk hF.fb hy (by decide)
  have hb1 : Blk w1 f.g #[f.v, .int .i64 (f.n : Int)] 60 := hF.blk.mod hm (fun e => hne _ e rfl)
  obtain ⟨a', c', hv', _, _⟩ := hfb.shape
  subst hv'
  refine ⟨a', _, c', w1, hrun, by rw [hb1.cell]; rfl, hb1.frozen 0, ?_⟩
  refine h.upd hf rfl rfl ho ((hm.mono (fun s hs => .inr hs)).setCell (p := ⟨f.g, 0, none⟩) (.inl (.inl rfl)) _) ⟨hb1.set 0 _, ?_, ?_, ?_, hF.name⟩
  · refine hfb.mod (Mod.setCell (S := (· = f.g)) (Mod.refl _ w1) (p := ⟨f.g, 0, none⟩) (.inl rfl) _) (fun y hy e => ?_)
    have e : y = f.g := e
    rcases ho y hy with h1 | h1
    · exact hne y h1 e.symm
    · have := hF.blk.lt
      omega
  · show f.n ≤ (f.b ++ b).length
    have := hF.lasts
    rw [List.length_append]; omega
  · show (f.b ++ b).length ≤ 1099511627776
    rw [List.length_append]; exact hl
/-- A file laid in. -/
theorem At.ins {w w1 w' : World} {d : Nat} {X : Dk} (h : At w d X) {f : Fr} (hm1 : Mod (fun _ => False) w w1) (hm : Mod (· = X.mb) w1 w') (hmap : PM w' X.mb (insF f X.L)) (hF : FileAt w1 f) (hg : w.heap.size ≤ f.g) (ho : ∀ y, f.v.ownBlock = some y → w.heap.size ≤ y) (hk : X.L.length < 1000) : Done w w' d X { X with L := insF f X.L } := by
  have h1 := h.still hm1
  have hmw : Mod (· = X.mb) w w' := (hm1.mono (fun _ h => h.elim)).trans hm (fun _ h => .inl h)
  have hne : ∀ (s : Nat) (cs : Array Value) (T : TypeId), Blk w1 s cs T → ¬ s = X.mb := fun s cs T hb e => h1.map.ne hb e.symm
  have hfile : ∀ x, FileAt w1 x → FileAt w' x := fun x hx => hx.mod hm (hne _ _ _ hx.blk) (fun y hy e => by
    obtain ⟨cur, fz, hh⟩ := hx.fb.type hy
    exact h1.map.ne hh (Eq.symm e))
  have hlen : (insF f X.L).length = X.L.length + 1 := by
    have aux : ∀ (f : Fr) (L : List Fr), (insF f L).length = L.length + 1 := by
      intro f L
      induction L with
      | nil => rfl
      | cons y r ih =>
        unfold insF
        split
        · rfl
        · rw [List.length_cons, ih]; rfl
    exact aux f X.L
  refine ⟨⟨h1.disk.mod hm (hne _ _ _ h1.disk), hmap, fun g a k hk => ⟨(h1.fuse g a k hk).1.mod hm (hne _ _ _ (h1.fuse g a k hk).1), (h1.fuse g a k hk).2⟩, ?_, ?_, h.room, h.falls, by show (insF f X.L).length ≤ 1000; omega⟩, hmw.mono (fun s hs => .inr (.inl hs)), ?_⟩
  · intro x hx
    rcases (ins_mem f X.L x).1 hx with rfl | hx
    · exact hfile _ hF
    · exact hfile x (h1.files x hx)
  · have aux : ∀ (L : List Fr), L.Pairwise Apt → (∀ x ∈ L, x.g < w.heap.size ∧ ∀ y, x.v.ownBlock = some y → y < w.heap.size) → (insF f L).Pairwise Apt := by
      intro L
      induction L with
      | nil => intro _ _; exact List.pairwise_singleton _ _
      | cons y r ih =>
        intro hp hlt
        have hp' := List.pairwise_cons.1 hp
        have hy := hlt y (List.mem_cons_self ..)
        have a1 : ∀ x, x ∈ y :: r → Apt f x := fun x hx => by
          have := hlt x hx
          exact ⟨by omega, fun z hz hz2 => by have h1 := ho z hz; have h2 := this.2 z hz2; omega⟩
        have a2 : ∀ x, x ∈ y :: r → Apt x f := fun x hx => by
          have := hlt x hx
          exact ⟨by omega, fun z hz hz2 => by have h1 := ho z hz2; have h2 := this.2 z hz; omega⟩
        unfold insF
        split
        · exact List.pairwise_cons.2 ⟨a1, hp⟩
        · refine List.pairwise_cons.2 ⟨fun x hx => ?_, ih hp'.2 (fun x hx => hlt x (List.mem_cons_of_mem _ hx))⟩
          rcases (ins_mem f r x).1 hx with rfl | hx
          · exact a2 y (List.mem_cons_self ..)
          · exact hp'.1 x hx
    exact aux X.L h.apart (fun x hx => ⟨(h.files x hx).blk.lt, fun y hy => (h.files x hx).fb.lt hy⟩)
  · rintro s (rfl | rfl | ⟨a, k, hk⟩ | ⟨x, hx, hs⟩)
    · exact .inl (.inl rfl)
    · exact .inl (.inr (.inl rfl))
    · exact .inl (.inr (.inr (.inl ⟨a, k, hk⟩)))
    · rcases (ins_mem f X.L x).1 hx with rfl | hx
      · right
        rcases hs with rfl | hs
        · exact hg
        · exact ho s hs
      · exact .inl (.inr (.inr (.inr ⟨x, hx, hs⟩)))
/-- Append's own deed is nothing. -/
theorem enter29 : ∀ w, (callFunc 29 #[]).run Try.prog w = .ok (.enter 29 #[]) w := enters_of Try.func29 (by kernel_rfl) rfl #[]
theorem nothing_any (w : World) : Calls Try.prog 29 #[] w fun e w' => e = .returned (.tuple #[]) ∧ w = w' := by
  go_enter Try.func29, Try.ntmps29
  go_wp2
  go_end0
  exact ⟨rfl, rfl⟩
end Go.Proofs.Ytoceddcppbddnaa
