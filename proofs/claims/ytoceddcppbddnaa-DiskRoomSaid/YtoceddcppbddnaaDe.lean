/-
  One file put in another's place; power fails.
-/
import Derived.Test.YtoceddcppbddnaaDd
namespace Go.Proofs.Ytoceddcppbddnaa
open Go.RowKit Mem Go.Maps
set_option linter.unusedVariables false
set_option linter.unusedSimpArgs false

def updL (L : List Fr) (f' : Fr) : List Fr := L.map (fun f => if f.g = f'.g then f' else f)
theorem apart_g {L : List Fr} (h : L.Pairwise Apt) {f f' : Fr} (hf : f ∈ L) (hf' : f' ∈ L) (hg : f.g = f'.g) : f = f' := by
  induction L with
  | nil => cases hf
  | cons x L ih =>
    have hp := List.pairwise_cons.1 h
    rcases List.mem_cons.1 hf with rfl | h1
    · rcases List.mem_cons.1 hf' with rfl | h2
      · rfl
      · exact absurd hg (hp.1 _ h2).1
    · rcases List.mem_cons.1 hf' with rfl | h2
      · exact absurd hg.symm (hp.1 _ h1).1
      · exact ih hp.2 h1 h2
theorem apart_own {L : List Fr} (h : L.Pairwise Apt) {f f' : Fr} (hf : f ∈ L) (hf' : f' ∈ L) (hg : f.g ≠ f'.g) {x : Nat} (hx : f.v.ownBlock = some x) : f'.v.ownBlock ≠ some x := by
  induction L with
  | nil => cases hf
  | cons y L ih =>
    have hp := List.pairwise_cons.1 h
    rcases List.mem_cons.1 hf with rfl | h1
    · rcases List.mem_cons.1 hf' with rfl | h2
      · exact absurd rfl hg
      · exact (hp.1 _ h2).2 x hx
    · rcases List.mem_cons.1 hf' with rfl | h2
      · exact fun e => (hp.1 _ h1).2 x e hx
      · exact ih hp.2 h1 h2
theorem upd_mem {L : List Fr} {f' x : Fr} (h : x ∈ updL L f') : x = f' ∨ (x ∈ L ∧ x.g ≠ f'.g) := by
  obtain ⟨y, hy, he⟩ := List.mem_map.1 h
  split at he
  · exact .inl he.symm
  · subst he; exact .inr ⟨hy, by assumption⟩
theorem md_upd {L : List Fr} (hL : L.Pairwise Apt) {f f' : Fr} (hf : f ∈ L) (hn : f'.name = f.name) (hg : f'.g = f.g) : md (updL L f') = md L := by
  unfold md updL
  congr 1
  rw [List.map_map]
  apply List.map_congr_left
  intro y hy
  dsimp only [Function.comp]
  split
  · rename_i h
    have : y = f := apart_g hL hy hf (h.trans hg)
    subst this
    unfold kv
    rw [hn, hg]
  · rfl
/-- What an operation on a disk leaves. -/
structure Done (w w' : World) (d : Nat) (X X' : Dk) : Prop where
  a : At w' d X'
  m : Mod (Foot d X) w w'
  f : ∀ s, Foot d X' s → Foot d X s ∨ w.heap.size ≤ s
theorem Done.trans {w w' w'' : World} {d : Nat} {X X' X'' : Dk} (h : Done w w' d X X') (k : Done w' w'' d X' X'') : Done w w'' d X X'' :=
  ⟨k.a, h.m.trans k.m (fun i hi => h.f i hi), fun s hs => (k.f s hs).elim (fun h1 => h.f s h1) (fun h1 => .inr (Nat.le_trans h.m.size h1))⟩
theorem Done.refl {w : World} {d : Nat} {X : Dk} (h : At w d X) : Done w w d X X := ⟨h, Mod.refl _ _, fun s hs => .inl hs⟩
theorem Done.still {w w' : World} {d : Nat} {X : Dk} (h : At w d X) (hm : Mod (fun _ => False) w w') : Done w w' d X X := ⟨h.still hm, hm.mono (fun _ h => h.elim), fun s hs => .inl hs⟩
theorem Done.calm {w w' w'' : World} {d : Nat} {X X' : Dk} (h : Done w w' d X X') (hm : Mod (fun _ => False) w' w'') : Done w w'' d X X' := h.trans (Done.still h.a hm)
theorem ne_cells {w : World} {g h : Nat} {cs : Array Value} {T U : TypeId} (a : Blk w g cs T) {v : Value} {l : Bs} (b : Fb w v l) (hv : v.ownBlock = some h) (hT : T ≠ 5) : g ≠ h := by
  rintro rfl
  obtain ⟨cur, fz, hh⟩ := b.type hv
  unfold Blk at a
  rw [hh] at a
  injection a with a
  injection a with _ a2 _
  exact hT a2.symm
/-- One file put in another's place. -/
theorem At.upd {w w' : World} {d : Nat} {X : Dk} (h : At w d X) {f f' : Fr} (hf : f ∈ X.L) (hn : f'.name = f.name) (hg : f'.g = f.g) (ho : ∀ x, f'.v.ownBlock = some x → f.v.ownBlock = some x ∨ w.heap.size ≤ x) (hm : Mod (fun s => s = f.g ∨ f.v.ownBlock = some s) w w') (hF : FileAt w' f') : Done w w' d X { X with L := updL X.L f' } := by
  have hFf := h.files f hf
  have hfar : ∀ s cs T, Blk w s cs T → T ≠ 5 → T ≠ 60 → ¬ (s = f.g ∨ f.v.ownBlock = some s) := fun s cs T hb h5 h60 he => by
    rcases he with rfl | he
    · exact Blk.ne hb hFf.blk h60 rfl
    · exact ne_cells (U := 5) hb hFf.fb he h5 rfl
  refine ⟨⟨h.disk.mod hm (hfar _ _ _ h.disk (by decide) (by decide)), ?_, fun g a k hk => ⟨(h.fuse g a k hk).1.mod hm (hfar _ _ _ (h.fuse g a k hk).1 (by decide) (by decide)), (h.fuse g a k hk).2⟩, ?_, ?_, h.room, h.falls, by
    show (updL X.L f').length ≤ 1000
    unfold updL
    rw [List.length_map]; exact h.many⟩, hm.mono (fun s hs => .inr (.inr (.inr ⟨f, hf, hs⟩))), ?_⟩
  · have h2 : PM w' X.mb X.L := h.map.mod hm (fun he => by
      rcases he with he | he
      · exact h.map.ne hFf.blk he
      · obtain ⟨cur, fz, hh⟩ := hFf.fb.type he
        exact h.map.ne hh rfl)
    obtain ⟨n, hn2, hmp⟩ := h2
    exact ⟨n, hn2, by rw [md_upd h.apart hf hn hg]; exact hmp⟩
  · intro x hx
    rcases upd_mem hx with rfl | ⟨hx, hxg⟩
    · exact hF
    · have hne : x.g ≠ f.g := by rw [← hg]; exact hxg
      refine (h.files x hx).mod hm ?_ ?_
      · rintro (he | he)
        · exact hne he
        · exact ne_cells (U := 5) (h.files x hx).blk hFf.fb he (by decide) rfl
      · rintro y hy (he | he)
        · subst he
          exact ne_cells (U := 5) hFf.blk (h.files x hx).fb hy (by decide) rfl
        · exact apart_own h.apart hx hf hne hy he
  · show (updL X.L f').Pairwise Apt
    unfold updL
    rw [List.pairwise_map]
    refine h.apart.imp_of_mem ?_
    intro a b ha hb hab
    split
    · rename_i hag
      split
      · rename_i hbg
        exact absurd (hag.trans hbg.symm) hab.1
      · rename_i hbg
        have hae : a = f := apart_g h.apart ha hf (hag.trans hg)
        subst hae
        refine ⟨fun e => hbg e.symm, fun y hy hy2 => ?_⟩
        rcases ho y hy with h1 | h1
        · exact hab.2 y h1 hy2
        · have := (h.files b hb).fb.lt hy2
          omega
    · rename_i hag
      split
      · rename_i hbg
        have hbe : b = f := apart_g h.apart hb hf (hbg.trans hg)
        subst hbe
        refine ⟨hag, fun y hy hy2 => ?_⟩
        rcases ho y hy2 with h1 | h1
        · exact hab.2 y hy h1
        · have := (h.files a ha).fb.lt hy
          omega
      · exact hab
  · rintro s (rfl | rfl | ⟨a, k, hk⟩ | ⟨x, hx, hs⟩)
    · exact .inl (.inl rfl)
    · exact .inl (.inr (.inl rfl))
    · exact .inl (.inr (.inr (.inl ⟨a, k, hk⟩)))
    · rcases upd_mem hx with rfl | ⟨hx, _⟩
      · rcases hs with rfl | hs
        · exact .inl (.inr (.inr (.inr ⟨f, hf, .inl hg⟩)))
        · rcases ho s hs with h1 | h1
          · exact .inl (.inr (.inr (.inr ⟨f, hf, .inr h1⟩)))
          · exact .inr h1
      · exact .inl (.inr (.inr (.inr ⟨x, hx, hs⟩)))
end Go.Proofs.Ytoceddcppbddnaa
