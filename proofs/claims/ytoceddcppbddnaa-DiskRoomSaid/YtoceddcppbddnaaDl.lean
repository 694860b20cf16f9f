/-
  Files that go, and files under other names.
-/
import Derived.Test.YtoceddcppbddnaaDk
namespace Go.Proofs.Ytoceddcppbddnaa
open Go.RowKit Mem Go.Maps
set_option linter.unusedVariables false
set_option linter.unusedSimpArgs false

/-- Another list of files, each of which was one under some name. -/
theorem At.relist {w w' : World} {d : Nat} {X : Dk} (h : At w d X) {L' : List Fr} (hm : Mod (· = X.mb) w w') (hmap : PM w' X.mb L') (hin : ∀ x ∈ L', x.name.length ≤ 32 ∧ ∃ f ∈ X.L, x.b = f.b ∧ x.n = f.n ∧ x.g = f.g ∧ x.v = f.v) (hap : L'.Pairwise Apt) (hlen : L'.length ≤ 1000) : Done w w' d X { X with L := L' } := by
  have hne : ∀ (s : Nat) (cs : Array Value) (T : TypeId), Blk w s cs T → ¬ s = X.mb := fun s cs T hb e => h.map.ne hb e.symm
  have hfile : ∀ x, FileAt w x → FileAt w' x := fun x hx => hx.mod hm (hne _ _ _ hx.blk) (fun y hy e => by
    obtain ⟨cur, fz, hh⟩ := hx.fb.type hy
    exact h.map.ne hh (Eq.symm e))
  refine ⟨⟨h.disk.mod hm (hne _ _ _ h.disk), hmap, fun g a k hk => ⟨(h.fuse g a k hk).1.mod hm (hne _ _ _ (h.fuse g a k hk).1), (h.fuse g a k hk).2⟩, ?_, hap, h.room, h.falls, hlen⟩, hm.mono (fun s hs => .inr (.inl hs)), ?_⟩
  · intro x hx
    obtain ⟨hn, f, hf, e1, e2, e3, e4⟩ := hin x hx
    have hF := hfile f (h.files f hf)
    exact ⟨by rw [e3, e4, e2]; exact hF.blk, by rw [e4, e1]; exact hF.fb, by rw [e2, e1]; exact hF.lasts, by rw [e1]; exact hF.len, hn⟩
  · rintro s (rfl | rfl | ⟨a, k, hk⟩ | ⟨x, hx, hs⟩)
    · exact .inl (.inl rfl)
    · exact .inl (.inr (.inl rfl))
    · exact .inl (.inr (.inr (.inl ⟨a, k, hk⟩)))
    · obtain ⟨_, f, hf, _, _, e3, e4⟩ := hin x hx
      rw [e3, e4] at hs
      exact .inl (.inr (.inr (.inr ⟨f, hf, hs⟩)))
theorem del_len (L : List Fr) (n : Bs) : (delF L n).length ≤ L.length := List.length_filter_le _ _
theorem del_lt {L : List Fr} {n : Bs} {f : Fr} (h : fndF L n = some f) : (delF L n).length < L.length := by
  obtain ⟨hm, hn⟩ := fnd_some h
  unfold delF
  rw [List.length_filter_lt_length_iff_exists]
  exact ⟨f, hm, by simp [hn]⟩
theorem ins_len (f : Fr) (L : List Fr) : (insF f L).length = L.length + 1 := by
  induction L with
  | nil => rfl
  | cons y r ih =>
    unfold insF
    split
    · rfl
    · rw [List.length_cons, ih]; rfl
theorem ins_pairwise {R : Fr → Fr → Prop} (hs : ∀ a b, R a b → R b a) {f : Fr} : ∀ {L : List Fr}, L.Pairwise R → (∀ x ∈ L, R f x) → (insF f L).Pairwise R
  | [], _, _ => List.pairwise_singleton _ _
  | y :: r, hp, hf => by
    have hp' := List.pairwise_cons.1 hp
    unfold insF
    split
    · exact List.pairwise_cons.2 ⟨hf, hp⟩
    · refine List.pairwise_cons.2 ⟨fun x hx => ?_, ins_pairwise hs hp'.2 (fun x hx => hf x (List.mem_cons_of_mem _ hx))⟩
      rcases (ins_mem f r x).1 hx with rfl | hx
      · exact hs _ _ (hf y (List.mem_cons_self ..))
      · exact hp'.1 x hx
theorem apt_symm (a b : Fr) (h : Apt a b) : Apt b a := ⟨h.1.symm, fun x hx hy => h.2 x hy hx⟩
theorem apt_of {L : List Fr} (h : L.Pairwise Apt) {f f' : Fr} (hf : f ∈ L) (hf' : f' ∈ L) (hg : f.g ≠ f'.g) : Apt f f' := ⟨hg, fun _ hx => apart_own h hf hf' hg hx⟩
/-- A file is no more. -/
theorem At.drop {w w' : World} {d : Nat} {X : Dk} (h : At w d X) (n : Bs) (hm : Mod (· = X.mb) w w') (hmap : PM w' X.mb (delF X.L n)) : Done w w' d X { X with L := delF X.L n } :=
  h.relist hm hmap (fun x hx => by
    have hx' := ((del_mem _ _ _).1 hx).1
    exact ⟨(h.files x hx').name, x, hx', rfl, rfl, rfl, rfl⟩) (h.apart.filter _) (Nat.le_trans (del_len _ _) h.many)
/-- A file under another name. -/
def ren (f : Fr) (t : Bs) : Fr := ⟨t, f.b, f.n, f.g, f.v⟩
theorem At.rename {w w' : World} {d : Nat} {X : Dk} (h : At w d X) {n t : Bs} {f : Fr} (hf : fndF X.L n = some f) (ht : t.length ≤ 32) (hm : Mod (· = X.mb) w w') (hmap : PM w' X.mb (insF (ren f t) (delF (delF X.L n) t))) : Done w w' d X { X with L := insF (ren f t) (delF (delF X.L n) t) } := by
  obtain ⟨hfm, hfn⟩ := fnd_some hf
  refine h.relist hm hmap (fun x hx => ?_) ?_ ?_
  · rcases (ins_mem _ _ _).1 hx with rfl | hx
    · exact ⟨ht, f, hfm, rfl, rfl, rfl, rfl⟩
    · have hx' := ((del_mem _ _ _).1 ((del_mem _ _ _).1 hx).1).1
      exact ⟨(h.files x hx').name, x, hx', rfl, rfl, rfl, rfl⟩
  · refine ins_pairwise apt_symm ((h.apart.filter _).filter _) (fun x hx => ?_)
    have hx1 := ((del_mem _ _ _).1 hx).1
    have hx2 := (del_mem _ _ _).1 hx1
    have : f.g ≠ x.g := fun e => hx2.2 (by rw [← apart_g h.apart hfm hx2.1 e]; exact hfn)
    have := apt_of h.apart hfm hx2.1 this
    exact ⟨this.1, this.2⟩
  · rw [ins_len]
    have h1 := del_len (delF X.L n) t
    have h2 := del_lt hf
    have h3 := h.many
    omega
theorem abs_drop (X : Dk) (n : Bs) : abs { X with L := delF X.L n } = withFs (abs X) (delA (abs X).fs n) := by
  unfold withFs abs
  dsimp only
  rw [map_del]
theorem abs_rename (X : Dk) (n t : Bs) (f : Fr) : abs { X with L := insF (ren f t) (delF (delF X.L n) t) } = withFs (abs X) (insA (t, f.b, f.n) (delA (delA (abs X).fs n) t)) := by
  unfold withFs abs
  dsimp only
  rw [map_ins, map_del, map_del]
  rfl
theorem abs_upd {X : Dk} (hL : X.L.Pairwise Apt) (hN : X.L.Pairwise (fun f f' => f.name ≠ f'.name)) {f f' : Fr} (hf : f ∈ X.L) (hn : f'.name = f.name) (hg : f'.g = f.g) : abs { X with L := updL X.L f' } = withFs (abs X) (setA (abs X).fs f.name f'.b f'.n) := by
  unfold withFs abs
  dsimp only
  rw [map_upd hL hN hf hn hg]
end Go.Proofs.Ytoceddcppbddnaa
