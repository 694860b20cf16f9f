/-
  A disk that a call made, as a law goes on with it.
-/
import Derived.Test.YtoceddcppbddnaaDq
namespace Go.Proofs.Ytoceddcppbddnaa
open Go.RowKit Mem Go.Maps
set_option linter.unusedVariables false
set_option linter.unusedSimpArgs false

structure Run (w : World) (d : Nat) (X : Dk) (A : Ab) (w1 : World) : Prop where
  at_ : At w1 d X
  ab : abs X = A
  new : ∀ s, Foot d X s → w.heap.size ≤ s
  mod : Mod (fun _ => False) w w1
theorem Run.go {w w1 w2 : World} {d : Nat} {X X' : Dk} {A A' : Ab} (h : Run w d X A w1) (k : Done w1 w2 d X X') (ha : abs X' = A') : Run w d X' A' w2 :=
  ⟨k.a, ha, fun s hs => (k.f s hs).elim (h.new s) (fun h1 => Nat.le_trans h.mod.size h1), h.mod.trans k.m (fun s hs => .inr (h.new s hs))⟩
theorem Run.still {w w1 w2 : World} {d : Nat} {X : Dk} {A : Ab} (h : Run w d X A w1) (hm : Mod (fun _ => False) w1 w2) : Run w d X A w2 :=
  ⟨h.at_.still hm, h.ab, h.new, h.mod.trans hm (fun _ h => h.elim)⟩
/-- A fresh block is not the disk's. -/
theorem Run.fresh {w w1 : World} {d : Nat} {X : Dk} {A : Ab} (h : Run w d X A w1) {g : Nat} (hg : w1.heap.size ≤ g) : ¬ Foot d X g := fun hf => by have := h.at_.lt hf; omega
theorem run_new (w : World) (room : Int) (hr : -9223372036854775808 ≤ room ∧ room ≤ 9223372036854775807) : Calls Try.prog 10 #[.int .i64 room] w fun e w' => ∃ d X, e = .returned (.pointer (some ⟨d, 0, none⟩)) ∧ Run w d X ⟨max 0 room, [], false, none, 0⟩ w' :=
  (new_any w room hr).mono fun e w' ⟨d, X, he, ha, hb, hm, hn⟩ => ⟨d, X, he, ha, hb, hn, hm⟩
theorem abs_len {X : Dk} {A : Ab} (h : abs X = A) : X.L.length = A.fs.length := by subst h; show _ = (X.L.map fl).length; rw [List.length_map]
theorem run_append {w w1 : World} {d : Nat} {X : Dk} {A : Ab} (h : Run w d X A w1) (n : Bs) (v : Value) (b : Bs) (hr : Rd w1 v b) (hn : n.length ≤ maxLen) (hfl : A.falls < 1000000) (hmany : A.fs.length < 1000) (hlen : totA A.fs + b.length ≤ 1099511627776) :
    Calls Try.prog 11 #[.pointer (some ⟨d, 0, none⟩), .string (sv n), v] w1 fun e w2 => ∃ X', e = .returned (.int .i64 (appendA A n b).2) ∧ Run w d X' (appendA A n b).1 w2 ∧ Done w1 w2 d X X' := by
  have e := h.ab
  subst e
  refine (append_any w1 d X n v b h.at_ hr hn hfl (by rw [abs_len (X := X) rfl]; exact hmany) (by rw [← abs_tot]; exact hlen)).mono ?_
  rintro e w2 ⟨X', he, ha, hD⟩
  exact ⟨X', he, h.go hD ha, hD⟩
theorem run_sync {w w1 : World} {d : Nat} {X : Dk} {A : Ab} (h : Run w d X A w1) (n : Bs) (hn : n.length ≤ maxLen) (hfl : A.falls < 1000000) :
    Calls Try.prog 12 #[.pointer (some ⟨d, 0, none⟩), .string (sv n)] w1 fun e w2 => ∃ X', e = .returned (.int .i64 (syncA A n).2) ∧ Run w d X' (syncA A n).1 w2 ∧ Done w1 w2 d X X' := by
  have e := h.ab
  subst e
  refine (sync_any w1 d X n h.at_ hn hfl).mono ?_
  rintro e w2 ⟨X', he, ha, hD⟩
  exact ⟨X', he, h.go hD ha, hD⟩
theorem run_cut {w w1 : World} {d : Nat} {X : Dk} {A : Ab} (h : Run w d X A w1) (n : Bs) (k : Int) (hn : n.length ≤ maxLen) (hfl : A.falls < 1000000) :
    Calls Try.prog 22 #[.pointer (some ⟨d, 0, none⟩), .string (sv n), .int .i64 k] w1 fun e w2 => ∃ X', e = .returned (.int .i64 (cutA A n k).2) ∧ Run w d X' (cutA A n k).1 w2 ∧ Done w1 w2 d X X' := by
  have e := h.ab
  subst e
  refine (cut_any w1 d X n k h.at_ hn hfl).mono ?_
  rintro e w2 ⟨X', he, ha, hD⟩
  exact ⟨X', he, h.go hD ha, hD⟩
theorem run_rename {w w1 : World} {d : Nat} {X : Dk} {A : Ab} (h : Run w d X A w1) (n t : Bs) (hn : n.length ≤ maxLen) (ht : t.length ≤ maxLen) (hfl : A.falls < 1000000) :
    Calls Try.prog 23 #[.pointer (some ⟨d, 0, none⟩), .string (sv n), .string (sv t)] w1 fun e w2 => ∃ X', e = .returned (.int .i64 (renameA A n t).2) ∧ Run w d X' (renameA A n t).1 w2 ∧ Done w1 w2 d X X' := by
  have e := h.ab
  subst e
  refine (rename_any w1 d X n t h.at_ hn ht hfl).mono ?_
  rintro e w2 ⟨X', he, ha, hD⟩
  exact ⟨X', he, h.go hD ha, hD⟩
theorem run_remove {w w1 : World} {d : Nat} {X : Dk} {A : Ab} (h : Run w d X A w1) (n : Bs) (hn : n.length ≤ maxLen) (hfl : A.falls < 1000000) :
    Calls Try.prog 19 #[.pointer (some ⟨d, 0, none⟩), .string (sv n)] w1 fun e w2 => ∃ X', e = .returned (.int .i64 (removeA A n).2) ∧ Run w d X' (removeA A n).1 w2 ∧ Done w1 w2 d X X' := by
  have e := h.ab
  subst e
  refine (remove_any w1 d X n h.at_ hn hfl).mono ?_
  rintro e w2 ⟨X', he, ha, hD⟩
  exact ⟨X', he, h.go hD ha, hD⟩
theorem run_start {w w1 : World} {d : Nat} {X : Dk} {A : Ab} (h : Run w d X A w1) : Calls Try.prog 15 #[.pointer (some ⟨d, 0, none⟩)] w1 fun e w2 => ∃ X', e = .returned (.tuple #[]) ∧ Run w d X' (startA A) w2 ∧ Done w1 w2 d X X' := by
  have e := h.ab
  subst e
  exact (start_any w1 d X h.at_).mono fun e w2 ⟨he, hD⟩ => ⟨_, he, h.go hD (abs_start X), hD⟩
theorem run_crash {w w1 : World} {d : Nat} {X : Dk} {A : Ab} (h : Run w d X A w1) (k : Nat) (hk : k < 18446744073709551616) (hfl : A.falls < 1000000) : Calls Try.prog 13 #[.pointer (some ⟨d, 0, none⟩), .int .u64 (k : Int)] w1 fun e w2 => ∃ X', e = .returned (.tuple #[]) ∧ Run w d X' (crashA k A) w2 ∧ Done w1 w2 d X X' := by
  have e := h.ab
  subst e
  exact (crash_any w1 d X k hk h.at_ hfl).mono fun e w2 ⟨he, hD⟩ => ⟨_, he, h.go hD (abs_crash k X), hD⟩
theorem run_arm {w w1 : World} {d : Nat} {X : Dk} {A : Ab} (h : Run w d X A w1) (a : Int) (k : Nat) (ha : -9223372036854775808 ≤ a ∧ a ≤ 9223372036854775807) (hk : k < 18446744073709551616) : Calls Try.prog 20 #[.pointer (some ⟨d, 0, none⟩), .int .i64 a, .int .u64 (k : Int)] w1 fun e w2 => ∃ X', e = .returned (.tuple #[]) ∧ Run w d X' (armA A a k) w2 ∧ Done w1 w2 d X X' := by
  have e := h.ab
  subst e
  exact (arm_any w1 d X a k h.at_ ha hk).mono fun e w2 ⟨he, g, hD⟩ => ⟨_, he, h.go hD (abs_arm X g a k), hD⟩
theorem run_up {w w1 : World} {d : Nat} {X : Dk} {A : Ab} (h : Run w d X A w1) : Calls Try.prog 21 #[.pointer (some ⟨d, 0, none⟩)] w1 fun e w2 => e = .returned (.bool (!A.off)) ∧ w1 = w2 := by
  have e := h.ab
  subst e
  exact up_any w1 d X h.at_
theorem run_falls {w w1 : World} {d : Nat} {X : Dk} {A : Ab} (h : Run w d X A w1) : Calls Try.prog 17 #[.pointer (some ⟨d, 0, none⟩)] w1 fun e w2 => e = .returned (.int .i64 A.falls) ∧ w1 = w2 := by
  have e := h.ab
  subst e
  exact falls_any w1 d X h.at_
theorem run_used {w w1 : World} {d : Nat} {X : Dk} {A : Ab} (h : Run w d X A w1) : Calls Try.prog 18 #[.pointer (some ⟨d, 0, none⟩)] w1 fun e w2 => e = .returned (.int .i64 (usedA A : Nat)) ∧ Mod (fun _ => False) w1 w2 := by
  have e := h.ab
  subst e
  rw [abs_used]
  exact used_any w1 d X h.at_
/-- What Read gives. -/
def readA (A : Ab) (n : Bs) : Bs × Int := if A.off then ([], 13) else match getA A.fs n with
  | none => ([], 15)
  | some p => (p.1, 0)
theorem run_read {w w1 : World} {d : Nat} {X : Dk} {A : Ab} (h : Run w d X A w1) (n : Bs) (hn : n.length ≤ maxLen) : Calls Try.prog 14 #[.pointer (some ⟨d, 0, none⟩), .string (sv n)] w1 fun e w2 => ∃ v, e = .returned (.tuple #[v, .int .i64 (readA A n).2]) ∧ w2.ownsRow w1.heap.size 5 1 v (readA A n).1.length (bts (readA A n).1) ∧ Mod (fun _ => False) w1 w2 := by
  have e := h.ab
  subst e
  refine (read_any w1 d X n h.at_ hn).mono ?_
  rintro e w2 ⟨hm, hres⟩
  have eo : (abs X).off = X.off := rfl
  unfold readA
  rw [eo, abs_get]
  cases hoff : X.off with
  | true =>
    rw [hoff] at hres
    exact ⟨_, hres, World.ownsRow_nil _ _ _ _, hm⟩
  | false =>
    rw [hoff] at hres
    cases hf : fndF X.L n with
    | none =>
      rw [hf] at hres
      exact ⟨_, hres, World.ownsRow_nil _ _ _ _, hm⟩
    | some f =>
      rw [hf] at hres
      obtain ⟨v, he, hrow⟩ := hres
      exact ⟨v, he, hrow, hm⟩
end Go.Proofs.Ytoceddcppbddnaa
