/-
  A map from names to files, as a list of files by rising names.
-/
import Derived.Test.YtoceddcppbddnaaDa
import Derived.Maps.OwnSet
import Derived.Maps.RangeWalk
import Derived.Maps.Ext
import Derived.Sort.KeysCollected
namespace Go.Proofs.Ytoceddcppbddnaa
open Go.RowKit Mem Go.Maps
set_option linter.unusedVariables false
set_option linter.unusedSimpArgs false

/-- A file: its name, its bytes, how many of them last; its block, and the slice in it. -/
structure Fr where
  name : Bs
  b : Bs
  n : Nat
  g : Nat
  v : Value
abbrev Dt := DataW Unit
def ptrR (v : Value) : Option (Dt × List MemPlace) := match v with
  | .pointer none => some (.lit (.int .i64 (-1)), [])
  | .pointer (some ⟨g, 0, none⟩) => some (.lit (.int .i64 (g : Int)), [])
  | _ => none
theorem ptrR_inv {v : Value} {n : Int} {ps : List MemPlace} (h : ptrR v = some (.lit (.int .i64 n), ps)) : (n = -1 ∧ v = .pointer none) ∨ ∃ g : Nat, n = g ∧ v = .pointer (some ⟨g, 0, none⟩) := by
  unfold ptrR at h
  split at h
  · left
    simp at h
    exact ⟨h.1.symm, rfl⟩
  · right
    rename_i g
    simp at h
    exact ⟨g, h.1.symm, rfl⟩
  · cases h
def kv (f : Fr) : Lit × Dt := (.string f.name, .lit (.int .i64 (f.g : Int)))
def md (L : List Fr) : Dt := .map (L.map kv)
def fndF (L : List Fr) (n : Bs) : Option Fr := L.find? (fun f => f.name == n)
def delF (L : List Fr) (n : Bs) : List Fr := L.filter (fun f => !(f.name == n))
def insF (f : Fr) : List Fr → List Fr
  | [] => [f]
  | y :: r => if bytesBefore f.name y.name then f :: y :: r else y :: insF f r
theorem md_find (L : List Fr) (n : Bs) : (L.map kv).find? (fun p => p.1.sameKey (.string n)) = (fndF L n).map kv := by
  unfold fndF
  induction L with
  | nil => rfl
  | cons f L ih =>
    have e : ((kv f).1.sameKey (.string n)) = (f.name == n) := rfl
    rw [List.map_cons, List.find?_cons, List.find?_cons, e]
    cases f.name == n with
    | true => rfl
    | false => exact ih
theorem md_at (L : List Fr) (n : Bs) (z : Dt) : (md L).atKey (.string n) z = match fndF L n with | some f => .lit (.int .i64 (f.g : Int)) | none => z := by
  unfold md DataW.atKey
  dsimp only
  rw [md_find]
  cases fndF L n <;> rfl
theorem md_has (L : List Fr) (n : Bs) : has (md L) (.string n) = (fndF L n).isSome := by
  unfold md fndF
  rw [has_eq]
  induction L with
  | nil => rfl
  | cons f L ih =>
    have e : ((kv f).1.sameKey (.string n)) = (f.name == n) := rfl
    rw [List.map_cons, List.any_cons, List.find?_cons, e]
    cases f.name == n with
    | true => rfl
    | false => exact ih
theorem md_del (L : List Fr) (n : Bs) : (md L).del (.string n) = md (delF L n) := by
  unfold md DataW.del delF
  dsimp only
  congr 1
  induction L with
  | nil => rfl
  | cons f L ih =>
    have e : ((kv f).1.sameKey (.string n)) = (f.name == n) := rfl
    rw [List.map_cons, List.filter_cons, List.filter_cons, e, ih]
    cases f.name == n <;> rfl
theorem md_ins (f : Fr) (L : List Fr) : DataW.insert (kv f) (L.map kv) = (insF f L).map kv := by
  induction L with
  | nil => rfl
  | cons y r ih =>
    have e : (kv f).1.before (kv y).1 = bytesBefore f.name y.name := rfl
    rw [List.map_cons]
    show (if (kv f).1.before (kv y).1 then _ else _) = (if bytesBefore f.name y.name then f :: y :: r else y :: insF f r).map kv
    rw [e, ih]
    split <;> rfl
theorem md_put (f : Fr) (L : List Fr) : (md L).put (.string f.name) (.lit (.int .i64 (f.g : Int))) = md (insF f (delF L f.name)) := by
  have h := md_del L f.name
  unfold md DataW.del at h
  dsimp only at h
  injection h with h
  unfold md DataW.put
  dsimp only
  rw [h]
  congr 1
  exact md_ins f (delF L f.name)
theorem ins_mem (f : Fr) (L : List Fr) (x : Fr) : x ∈ insF f L ↔ x = f ∨ x ∈ L := by
  induction L with
  | nil => simp [insF]
  | cons y r ih =>
    unfold insF
    split
    · simp
    · rw [List.mem_cons, ih, List.mem_cons]
      constructor
      · rintro (h | h | h)
        · exact .inr (.inl h)
        · exact .inl h
        · exact .inr (.inr h)
      · rintro (h | h | h)
        · exact .inr (.inl h)
        · exact .inl h
        · exact .inr (.inr h)
theorem del_mem (L : List Fr) (n : Bs) (x : Fr) : x ∈ delF L n ↔ x ∈ L ∧ x.name ≠ n := by
  unfold delF; simp
theorem fnd_some {L : List Fr} {n : Bs} {f : Fr} (h : fndF L n = some f) : f ∈ L ∧ f.name = n := by
  have h1 := List.mem_of_find?_eq_some h
  have h2 := List.find?_some h
  exact ⟨h1, by simpa using h2⟩
theorem fnd_none {L : List Fr} {n : Bs} (h : fndF L n = none) : ∀ f ∈ L, f.name ≠ n := by
  intro f hf
  have := List.find?_eq_none.1 h f hf
  simpa using this
theorem del_none {L : List Fr} {n : Bs} (h : fndF L n = none) : delF L n = L := by
  unfold delF
  rw [List.filter_eq_self]
  intro f hf
  simpa using fnd_none h f hf
/-- The map. -/
def PM (w : World) (mb : Nat) (L : List Fr) : Prop := ∃ n, n ≤ 1000000000 ∧ w.ownsMap Try.prog 9 ptrR mb n (md L)
theorem law9 : Keyed Try.prog 9 := string_keyed Try.underlying9
theorem key9 {n : Bs} (h : n.length ≤ maxLen) : keyOf Try.prog 9 (.string (sv n)) = some (.string n) := Go.WideMaps.keyOf_string_mk Try.underlying9 h
theorem zero58 (w : World) : (zeroValue 58).run Try.prog w = .ok (.pointer none) w := by kernel_rfl
theorem PM.lt {w : World} {mb : Nat} {L : List Fr} (h : PM w mb L) : mb < w.heap.size := by obtain ⟨n, _, h⟩ := h; exact h.lt
theorem PM.ne {w : World} {mb g : Nat} {L : List Fr} (h : PM w mb L) {cs : Array Value} {T : TypeId} {fz : Nat × Nat} (hg : w.heap[g]? = some (.cells cs T fz)) : mb ≠ g := by
  obtain ⟨n, _, es, clock, hb, _⟩ := h
  rintro rfl
  rw [hb] at hg
  cases hg
theorem PM.mod {w w' : World} {mb : Nat} {L : List Fr} {S : Nat → Prop} (h : PM w mb L) (hm : Mod S w w') (hs : ¬ S mb) : PM w' mb L := by
  obtain ⟨n, hn, h⟩ := h
  have hlt := h.lt
  obtain ⟨es, clock, hb, F, hsz, hD⟩ := h
  exact ⟨n, hn, es, clock, (hm.block mb hlt hs).trans hb, F, hsz, hD⟩
theorem PM.made (w : World) : PM (w.alloc (.map #[] 0)) w.heap.size [] := ⟨0, by decide, World.ownsMap_made w Try.prog 9 ptrR⟩
theorem PM.canon {w : World} {mb : Nat} {L : List Fr} (h : PM w mb L) : L.Pairwise (fun f f' => bytesBefore f.name f'.name = true) := by
  obtain ⟨n, _, h⟩ := h
  obtain ⟨es, he, hp, _⟩ := h.canon law9
  unfold md at he
  injection he with he
  rw [← he, List.pairwise_map] at hp
  exact hp
/-- Looked up. -/
def ptrOf (o : Option Fr) : Value := .pointer (o.map fun f => ⟨f.g, 0, none⟩)
theorem PM.look {w : World} {mb : Nat} {L : List Fr} (h : PM w mb L) {n : Bs} (hn : n.length ≤ maxLen) : (Instr.lookup 53 (.map (some mb)) (.string (sv n)) false).run Try.prog w = .ok (ptrOf (fndF L n)) w := by
  obtain ⟨k, _, h⟩ := h
  obtain ⟨v, ps, hrun, hR⟩ := h.lookup law9 Try.underlying53 (zero58 w) (zd := .lit (.int .i64 (-1))) (zp := []) rfl (key9 hn)
  rw [md_at] at hR
  rw [hrun]
  cases hf : fndF L n with
  | none =>
    rw [hf] at hR
    rcases ptrR_inv hR with ⟨_, rfl⟩ | ⟨g, hg, _⟩
    · rfl
    · omega
  | some f =>
    rw [hf] at hR
    rcases ptrR_inv hR with ⟨hg, _⟩ | ⟨g, hg, rfl⟩
    · omega
    · have : g = f.g := by omega
      rw [this]; rfl
theorem PM.look_ok {w : World} {mb : Nat} {L : List Fr} (h : PM w mb L) {n : Bs} (hn : n.length ≤ maxLen) : (Instr.lookup 53 (.map (some mb)) (.string (sv n)) true).run Try.prog w = .ok (.tuple #[ptrOf (fndF L n), .bool (fndF L n).isSome]) w := by
  obtain ⟨k, _, h⟩ := h
  obtain ⟨v, ps, hrun, hR⟩ := h.look_ok law9 Try.underlying53 (zero58 w) (zd := .lit (.int .i64 (-1))) (zp := []) rfl (key9 hn)
  rw [md_at] at hR
  rw [hrun, md_has]
  cases hf : fndF L n with
  | none =>
    rw [hf] at hR
    rcases ptrR_inv hR with ⟨_, rfl⟩ | ⟨g, hg, _⟩
    · rfl
    · omega
  | some f =>
    rw [hf] at hR
    rcases ptrR_inv hR with ⟨hg, _⟩ | ⟨g, hg, rfl⟩
    · omega
    · have : g = f.g := by omega
      rw [this]; rfl
/-- A file laid in. -/
theorem PM.put {w : World} {mb : Nat} {L : List Fr} (h : PM w mb L) (f : Fr) (hn : f.name.length ≤ maxLen) (hL : L.length ≤ 1000000) : ∃ w', (Instr.mapUpdate 53 (.map (some mb)) (.string (sv f.name)) (.pointer (some ⟨f.g, 0, none⟩))).run Try.prog w = .ok () w' ∧ PM w' mb (insF f (delF L f.name)) ∧ Mod (· = mb) w w' := by
  obtain ⟨k, hk, es, clock, hb, F, hsz, hD⟩ := h
  have hes : es.size = L.length := by
    have : ((es.toList.map (Go.WideElems.rg Try.prog 9 ptrR)).foldr DataW.insert []).length = (L.map kv).length := by
      unfold md at hD
      injection hD with hD
      rw [hD]
    rw [length_sorted] at this
    simpa using this
  have h2 : w.ownsMap Try.prog 9 ptrR mb L.length (md L) := ⟨es, clock, hb, F, by omega, hD⟩
  obtain ⟨w', hrun, ho, hg⟩ := h2.update law9 Try.underlying53 (by unfold maxLen; omega) (val := .pointer (some ⟨f.g, 0, none⟩)) (d := .lit (.int .i64 (f.g : Int))) (ps := []) (key9 hn) rfl
  rw [md_put] at ho
  exact ⟨w', hrun, ⟨L.length + 1, by omega, ho⟩, (Mod.refl _ w).grown hg (fun i hi => Or.inl (Option.some.inj hi).symm)⟩
theorem PM.drop {w : World} {mb : Nat} {L : List Fr} (h : PM w mb L) {n : Bs} (hn : n.length ≤ maxLen) (ty : TypeId) : ∃ w', (Builtin.delete_ #[53, 9] ty #[.map (some mb), .string (sv n)]).run Try.prog w = .ok (.tuple #[]) w' ∧ PM w' mb (delF L n) ∧ Mod (· = mb) w w' := by
  obtain ⟨k, hk, h⟩ := h
  obtain ⟨w', hrun, ho, ht⟩ := h.drop law9 Try.underlying53 (key9 hn) ty
  rw [md_del] at ho
  exact ⟨w', hrun, ⟨k, hk, ho⟩, (Mod.refl _ w).grown ht.grown (fun i hi => Or.inl (Option.some.inj hi).symm)⟩
end Go.Proofs.Ytoceddcppbddnaa
