/-
  A disk as plain data; what each call makes of it. No memory in sight but for the last part.
-/
import Derived.Test.YtoceddcppbddnaaDg
namespace Go.Proofs.Ytoceddcppbddnaa
open Go.RowKit Mem Go.Maps
set_option linter.unusedVariables false
set_option linter.unusedSimpArgs false

abbrev Fl := Bs × Bs × Nat
structure Ab where
  room : Int
  fs : List Fl
  off : Bool
  fuse : Option (Int × Nat)
  falls : Int
def fl (f : Fr) : Fl := (f.name, f.b, f.n)
def abs (X : Dk) : Ab := ⟨X.room, X.L.map fl, X.off, X.fuse.map (fun p => p.2), X.falls⟩
def nn (k i : Nat) (p : Fl) : Nat := p.2.2 + (k / (i + 1)) % (p.2.1.length - p.2.2 + 1)
def crashA (k : Nat) (A : Ab) : Ab := if A.off then A else ⟨A.room, A.fs.mapIdx (fun i p => (p.1, p.2.1.take (nn k i p), nn k i p)), true, none, A.falls + 1⟩
def tickA (A : Ab) : Ab := match A.fuse with
  | some (a, k) => ⟨A.room, A.fs, A.off, some (a - 1, k), A.falls⟩
  | none => A
def blowsA (A : Ab) : Option Nat := match A.fuse with
  | some (a, k) => if a = 0 then some k else none
  | none => none
/-- A deed: power fails, or it is done. -/
def deedA (A : Ab) (f : Ab → Ab) : Ab × Int := match blowsA A with
  | some k => (crashA k A, 13)
  | none => (f (tickA A), 0)
def getA (fs : List Fl) (n : Bs) : Option (Bs × Nat) := (fs.find? (fun p => p.1 == n)).map (·.2)
def setA (fs : List Fl) (n b : Bs) (l : Nat) : List Fl := fs.map (fun p => if p.1 == n then (n, b, l) else p)
def delA (fs : List Fl) (n : Bs) : List Fl := fs.filter (fun p => !(p.1 == n))
def insA (p : Fl) : List Fl → List Fl
  | [] => [p]
  | y :: r => if bytesBefore p.1 y.1 then p :: y :: r else y :: insA p r
def totA (fs : List Fl) : Nat := (fs.map fun p => p.2.1.length).sum
def usedA (A : Ab) : Nat := usedN A.off (totA A.fs)
def nmA (n : Bs) : Bool := decide (n.length ≠ 0) && decide (n.length ≤ 32)
def putA (fs : List Fl) (n b : Bs) : List Fl := match getA fs n with
  | some (b0, l) => setA fs n (b0 ++ b) l
  | none => insA (n, b, 0) fs
def withFs (A : Ab) (fs : List Fl) : Ab := ⟨A.room, fs, A.off, A.fuse, A.falls⟩
def appendA (A : Ab) (n b : Bs) : Ab × Int :=
  if A.off then (A, 13) else if nmA n = false then (A, 1) else if (b.length : Int) > A.room - (usedA A : Int) then (A, 14)
  else deedA (withFs A (putA A.fs n b)) (fun A => A)
/-- What a file that there must be is. -/
def ofA (A : Ab) (n : Bs) (f : Bs × Nat → Ab × Int) : Ab × Int := if A.off then (A, 13) else match getA A.fs n with
  | none => (A, 15)
  | some p => f p
def syncA (A : Ab) (n : Bs) : Ab × Int := ofA A n fun p => deedA A fun A => withFs A (setA A.fs n p.1 p.1.length)
def cutA (A : Ab) (n : Bs) (k : Int) : Ab × Int := ofA A n fun p => if k < 0 ∨ k > (p.1.length : Int) then (A, 1) else deedA A fun A => withFs A (setA A.fs n (p.1.take k.toNat) (min k.toNat p.2))
def renameA (A : Ab) (n t : Bs) : Ab × Int := ofA A n fun p => if nmA t = false then (A, 1) else deedA A fun A => withFs A (insA (t, p.1, p.2) (delA (delA A.fs n) t))
def removeA (A : Ab) (n : Bs) : Ab × Int := ofA A n fun _ => deedA A fun A => withFs A (delA A.fs n)
def armA (A : Ab) (after : Int) (k : Nat) : Ab := if A.off then A else ⟨A.room, A.fs, A.off, if 0 ≤ after then some (after, k) else none, A.falls⟩
def startA (A : Ab) : Ab := ⟨A.room, A.fs, false, none, A.falls⟩

/-! From what lies in memory to the data. -/
theorem abs_get (X : Dk) (n : Bs) : getA (abs X).fs n = (fndF X.L n).map (fun f => (f.b, f.n)) := by
  unfold getA abs fndF
  dsimp only
  induction X.L with
  | nil => rfl
  | cons f L ih =>
    rw [List.map_cons, List.find?_cons, List.find?_cons]
    have e : ((fl f).1 == n) = (f.name == n) := rfl
    rw [e]
    cases f.name == n with
    | true => rfl
    | false => exact ih
theorem abs_tot (X : Dk) : totA (abs X).fs = tot X.L := by
  unfold totA abs tot
  rw [List.map_map]; rfl
theorem abs_used (X : Dk) : usedA (abs X) = usedN X.off (tot X.L) := by
  unfold usedA; rw [abs_tot]; rfl
theorem map_ins (f : Fr) (L : List Fr) : (insF f L).map fl = insA (fl f) (L.map fl) := by
  induction L with
  | nil => rfl
  | cons y r ih =>
    show (if bytesBefore f.name y.name then f :: y :: r else y :: insF f r).map fl = (if bytesBefore f.name y.name then fl f :: fl y :: r.map fl else fl y :: insA (fl f) (r.map fl))
    split
    · rfl
    · rw [List.map_cons, ih]
theorem map_del (L : List Fr) (n : Bs) : (delF L n).map fl = delA (L.map fl) n := by
  unfold delF delA
  rw [List.filter_map]
  rfl
theorem map_upd {L : List Fr} (hL : L.Pairwise Apt) (hN : L.Pairwise (fun f f' => f.name ≠ f'.name)) {f f' : Fr} (hf : f ∈ L) (hn : f'.name = f.name) (hg : f'.g = f.g) : (updL L f').map fl = setA (L.map fl) f.name f'.b f'.n := by
  unfold updL setA
  rw [List.map_map, List.map_map]
  apply List.map_congr_left
  intro y hy
  dsimp only [Function.comp]
  by_cases h : y.g = f'.g
  · rw [if_pos h]
    have : y = f := apart_g hL hy hf (h.trans hg)
    subst this
    have e : ((fl y).1 == y.name) = true := by show (y.name == y.name) = true; simp
    rw [e, if_pos rfl, ← hn]
    rfl
  · rw [if_neg h]
    have hne : y.name ≠ f.name := by
      intro e
      have : y = f := by
        have aux : ∀ (M : List Fr), M.Pairwise (fun f f' => f.name ≠ f'.name) → y ∈ M → f ∈ M → y = f := by
          intro M
          induction M with
          | nil => intro _ h; cases h
          | cons x M ih =>
            intro hp h1 h2
            have hp' := List.pairwise_cons.1 hp
            rcases List.mem_cons.1 h1 with h1' | h1'
            · rcases List.mem_cons.1 h2 with h2' | h2'
              · rw [h1', h2']
              · exact absurd (by rw [← h1']; exact e) (hp'.1 _ h2')
            · rcases List.mem_cons.1 h2 with h2' | h2'
              · exact absurd (by rw [← h2']; exact e.symm) (hp'.1 _ h1')
              · exact ih hp'.2 h1' h2'
        exact aux L hN hy hf
      subst this
      exact h hg.symm
    have e : ((fl y).1 == f.name) = false := beq_eq_false_iff_ne.2 hne
    rw [e]
    rfl
theorem abs_crash (k : Nat) (X : Dk) : abs (crashX k X) = crashA k (abs X) := by
  unfold crashX crashA
  have e : (abs X).off = X.off := rfl
  rw [e]
  split
  · rfl
  · unfold abs
    dsimp only
    congr 1
    unfold crashTo
    apply List.ext_getElem?
    intro j
    rw [List.getElem?_map, List.getElem?_mapIdx, List.getElem?_mapIdx, List.getElem?_map]
    cases h : X.L[j]? with
    | none => rfl
    | some y =>
      obtain ⟨hj, _⟩ := List.getElem?_eq_some_iff.1 h
      simp only [Option.map_some]
      rw [if_pos hj]
      rfl
theorem abs_tick (X : Dk) : abs (tick X) = tickA (abs X) := by
  unfold tick tickA
  have e : (abs X).fuse = X.fuse.map (fun p => p.2) := rfl
  rw [e]
  rcases hf : X.fuse with _ | ⟨g, a, k⟩
  · rfl
  · rfl
theorem abs_blows (X : Dk) : blowsA (abs X) = blows X := by
  unfold blows blowsA
  have e : (abs X).fuse = X.fuse.map (fun p => p.2) := rfl
  rw [e]
  rcases hf : X.fuse with _ | ⟨g, a, k⟩
  · rfl
  · rfl
theorem tick_L (X : Dk) : (tick X).L = X.L ∧ (tick X).mb = X.mb ∧ (tick X).off = X.off := by
  unfold tick
  rcases hf : X.fuse with _ | ⟨g, a, k⟩
  · exact ⟨rfl, rfl, rfl⟩
  · exact ⟨rfl, rfl, rfl⟩
end Go.Proofs.Ytoceddcppbddnaa
