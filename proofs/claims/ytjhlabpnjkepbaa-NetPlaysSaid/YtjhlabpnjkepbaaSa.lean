/-
  A net under way in a law, and what is shown at the start.
-/
import Derived.Test.YtjhlabpnjkepbaaRd
import Derived.Lib.SlBytesConst
import Derived.Lib.SmallJoins
namespace Go.Proofs.Ytjhlabpnjkepbaa
open Go.RowKit Mem
set_option linter.unusedVariables false

/-- A net that the call made, in a world where only its own blocks have turned. -/
def St (B g : Nat) (L : List Let) (s : Nat) (w w' : World) : Prop := w.heap.size ≤ B ∧ Mod (fun _ => False) w w' ∧ ∃ v, NetAt B w' g v L s
theorem St.new {B g s : Nat} {L : List Let} {w w1 w2 : World} {S : Nat → Prop} (h : St B g L s w w1) (hm : Mod S w1 w2) (hS : ∀ i, S i → w1.heap.size ≤ i) : St B g L s w w2 := by
  obtain ⟨hB, hm1, v, hn⟩ := h
  exact ⟨hB, hm1.trans hm (fun i hi => .inr (by have := hS i hi; have := hm1.size; omega)), v, hn.new hm hS⟩
theorem St.quiet {B g s : Nat} {L : List Let} {w w1 w2 : World} (h : St B g L s w w1) (hm : Mod (fun _ => False) w1 w2) : St B g L s w w2 := h.new hm (fun _ h => h.elim)
theorem St.kept {R : Nat → Prop} {B g s s' : Nat} {v : Value} {L L' : List Let} {w w1 w2 : World} (hB : w.heap.size ≤ B) (hm : Mod (fun _ => False) w w1) (hn : NetAt B w1 g v L s) (hk : KeptR R B g v L' s' w1 w2) : St B g L' s' w w2 := by
  obtain ⟨v', h1, h2, h3⟩ := hk
  refine ⟨hB, hm.trans h3 (fun i hi => .inr ?_), v', h1 w2 (Mod.refl _ _)⟩
  rcases hi with rfl | hi
  · have := hn.base; omega
  · obtain ⟨xs, ho, _⟩ := hn.own
    have := (own_lt ho hi).1
    omega
theorem st_new (w : World) : Calls Try.prog 8 #[] w fun e w' => ∃ g, e = .returned (.pointer (some ⟨g, 0, none⟩)) ∧ St w.heap.size g [] 0 w w' := (new_any w).mono fun e w' ⟨g, hg, he, hn, hm⟩ => ⟨g, he, Nat.le_refl _, hm, _, hn⟩
theorem st_send {B g s : Nat} {L : List Let} {w w1 : World} (h : St B g L s w w1) (f t : Int) (bv : Value) (b : List UInt8) (hb : Rd w1 bv b) (hbl : b.length ≤ 1000000)
    (hf : -9223372036854775808 ≤ f) (hf' : f ≤ 9223372036854775807) (ht : -9223372036854775808 ≤ t) (ht' : t ≤ 9223372036854775807) : Calls Try.prog 12 #[.pointer (some ⟨g, 0, none⟩), .int .i64 f, .int .i64 t, bv] w1 fun e w2 => e = .returned (.tuple #[]) ∧ St B g (sent L f t b) s w w2 := by
  obtain ⟨hB, hm, v, hn⟩ := h
  exact (send_any B g s v L w1 w1 hn (Mod.refl _ _) f t bv b hb hbl hf hf' ht ht').mono fun e w2 ⟨he, hk⟩ => ⟨he, St.kept hB hm hn hk⟩
theorem st_move {B g s : Nat} {L : List Let} {w w1 : World} (h : St B g L s w w1) (i j : Int) : Calls Try.prog 14 #[.pointer (some ⟨g, 0, none⟩), .int .i64 i, .int .i64 j] w1 fun e w2 => e = .returned (.bool (moveOk L i j)) ∧ St B g (moved L i j) s w w2 := by
  obtain ⟨hB, hm, v, hn⟩ := h
  exact (move_any B g s v L w1 hn i j).mono fun e w2 ⟨he, hk⟩ => ⟨he, St.kept hB hm hn hk⟩
theorem st_copy {B g s : Nat} {L : List Let} {w w1 : World} (h : St B g L s w w1) (hb : ∀ l ∈ L, l.b.length ≤ 1000000) (i : Int) : Calls Try.prog 13 #[.pointer (some ⟨g, 0, none⟩), .int .i64 i] w1 fun e w2 => e = .returned (.bool (copyOk L i)) ∧ St B g (copied L i) s w w2 := by
  obtain ⟨hB, hm, v, hn⟩ := h
  exact (copy_any B g s v L i w1 hn hb).mono fun e w2 ⟨he, hk⟩ => ⟨he, St.kept hB hm hn hk⟩
theorem st_split {B g s : Nat} {L : List Let} {w w1 : World} (h : St B g L s w w1) (s' : Nat) (hs : s' < 18446744073709551616) : Calls Try.prog 16 #[.pointer (some ⟨g, 0, none⟩), .int .u64 s'] w1 fun e w2 => e = .returned (.tuple #[]) ∧ St B g L s' w w2 := by
  obtain ⟨hB, hm, v, hn⟩ := h
  exact (split_any B g s v L w1 hn s' hs).mono fun e w2 ⟨he, hn2, hm2, hsz⟩ => ⟨he, hB, hm.trans hm2 (fun i hi => .inr (by have := hn.base; omega)), v, hn2⟩
theorem st_reach {B g s : Nat} {L : List Let} {w w1 : World} (h : St B g L s w w1) (f t : Int) (hf : -9223372036854775808 ≤ f) (hf' : f ≤ 9223372036854775807) (ht : -9223372036854775808 ≤ t) (ht' : t ≤ 9223372036854775807) : Calls Try.prog 17 #[.pointer (some ⟨g, 0, none⟩), .int .i64 f, .int .i64 t] w1 fun e w2 => e = .returned (.bool (reach s f t)) ∧ St B g L s w w2 := by
  have h' := h
  obtain ⟨hB, hm, v, hn⟩ := h
  exact (reach_any g v s f t w1 hn.blk hn.sides hf hf' ht ht').mono fun e w2 ⟨he, hd⟩ => ⟨he, h'.quiet hd.mod⟩
theorem st_len {B g s : Nat} {L : List Let} {w w1 : World} (h : St B g L s w w1) : Calls Try.prog 10 #[.pointer (some ⟨g, 0, none⟩)] w1 fun e w2 => e = .returned (.int .i64 L.length) ∧ w1 = w2 := by
  obtain ⟨hB, hm, v, hn⟩ := h
  exact len_any B g s v L w1 hn
/-- What Take gives. -/
def TookSt (B g : Nat) (L : List Let) (s : Nat) (i : Int) (w w1 : World) (e : Ending) (w2 : World) : Prop :=
  St B g (taken L s i) s w w2 ∧ Mod (fun x => B ≤ x) w1 w2 ∧ ∃ v2, e = .returned (.tuple #[.int .i64 (tl L s i).f, .int .i64 (tl L s i).t, v2, .bool (takeOk L s i)]) ∧ By w2 w1.heap.size v2 (tl L s i).b
theorem st_take {B g s : Nat} {L : List Let} {w w1 : World} (h : St B g L s w w1) (hb : Good L) (i : Int) : Calls Try.prog 15 #[.pointer (some ⟨g, 0, none⟩), .int .i64 i] w1 (TookSt B g L s i w w1) := by
  obtain ⟨hB, hm, v, hn⟩ := h
  refine (take_any B g s v L i w1 hn hb).mono fun e w2 ht => ?_
  have hold : ∀ L' s', Kept B g v L' s' w1 w2 → Mod (fun x => B ≤ x) w1 w2 := fun L' s' hk => by
    obtain ⟨v', h1, h2, h3⟩ := hk
    refine h3.mono (fun x hx => ?_)
    rcases hx with rfl | hx
    · exact hn.base
    · obtain ⟨xs, ho, _⟩ := hn.own
      exact (own_lt ho hx).1
  rcases ht with ⟨v2, hk, hok, he, hby, hkp⟩ | ⟨hok, he, hkp⟩
  · have hhas := takeOk_has hok
    have hrl : rl L i = L[i.toNat] := by unfold rl; rw [if_pos hhas]; simp [hk]
    have htl : tl L s i = L[i.toNat] := by unfold tl; rw [if_pos hok, hrl]
    have htd : taken L s i = L.take i.toNat ++ L.drop (i.toNat + 1) := by unfold taken; rw [if_pos hok]
    rw [← htd] at hkp
    refine ⟨St.kept hB hm hn hkp, hold _ _ hkp, v2, ?_, ?_⟩
    · rw [htl, hok]; exact he
    · rw [htl]; exact hby
  · have htl : tl L s i = ⟨0, 0, []⟩ := by unfold tl; rw [hok]; rfl
    have htd : taken L s i = L := by unfold taken; rw [hok]; rfl
    refine ⟨?_, hold _ _ hkp, .slice none 0 0, ?_, ?_⟩
    · rw [htd]; exact St.kept hB hm hn hkp
    · rw [htl, hok]; exact he
    · rw [htl]; exact World.ownsRow_nil _ _ _ _
/-- One byte, out of the program's text. -/
theorem rd_one (w : World) (b : UInt8) : Rd (w.alloc (.cells #[.int .u8 (b.toNat : Int)] 5 (1, 2))) (.slice (some ⟨w.heap.size, 0, none⟩) 1 1) [b] := by
  refine .inr ⟨⟨w.heap.size, 0, none⟩, 1, rfl, fun j u hu => ?_⟩
  rw [Addr.add_lit, World.cell?_alloc_mark]
  simpa [bts] using hu

/-- string(b). -/
theorem rd_text {w : World} {v : Value} {b : List UInt8} (h : Rd w v b) : (convert 32 9 v).run Try.prog w = .ok (.string ⟨b.toArray⟩) w := by
  rcases h with ⟨rfl, rfl⟩ | ⟨ad, c, rfl, hc⟩
  · exact run_convert_bytes_nil w 32 5 Try.underlying32 Try.underlying5 0 0 9 Try.underlying9
  · exact run_convert_bytes_back w 32 9 5 ad c b Try.underlying32 Try.underlying5 Try.underlying9 (fun j hj => hc j _ (by simp [bts, hj]))

theorem good2 : Good [⟨2, 3, [98]⟩, ⟨1, 2, [97]⟩] := by
  intro l hl
  simp only [List.mem_cons, List.not_mem_nil, or_false] at hl
  rcases hl with rfl | rfl <;> simp
theorem good1 : Good [⟨1, 2, [97]⟩] := by
  intro l hl
  simp only [List.mem_cons, List.not_mem_nil, or_false] at hl
  subst hl
  simp
set_option maxRecDepth 100000 in
set_option maxHeartbeats 1600000 in
theorem shown_any (w : World) : Calls Try.prog 7 #[] w fun e w' => e = .returned (.bool true) ∧ Mod (fun _ => False) w w' := by
  have kc := fun (w : World) (C : Array Value) (n c : Nat) => Lib.run_convert_bytes_const (P := Try.prog) w 32 5 C n c Try.underlying32 Try.underlying5
  go_enter Try.func7, Try.ntmps7
  go_wp2_with (fail)
  refine (st_new w).mono ?_
  rintro e w1 ⟨g, rfl, s1⟩
  go_wp2_with (fail)
  refine (st_send (s1.quiet ((Mod.refl _ w1).alloc _)) 1 2 _ [97] (rd_one w1 97) (by decide) (by decide) (by decide) (by decide) (by decide)).mono ?_
  rintro e w2 ⟨rfl, s2⟩
  rw [show sent [] 1 2 [97] = [⟨1, 2, [97]⟩] by simp [sent]] at s2
  go_wp2_with (fail)
  refine (st_send (s2.quiet ((Mod.refl _ w2).alloc _)) 2 3 _ [98] (rd_one w2 98) (by decide) (by decide) (by decide) (by decide) (by decide)).mono ?_
  rintro e w3 ⟨rfl, s3⟩
  rw [show sent [⟨1, 2, [97]⟩] 2 3 [98] = [⟨1, 2, [97]⟩, ⟨2, 3, [98]⟩] by simp [sent]] at s3
  go_wp2_with (fail)
  refine (st_move s3 1 0).mono ?_
  rintro e w4 ⟨rfl, s4⟩
  rw [show moved [⟨1, 2, [97]⟩, ⟨2, 3, [98]⟩] 1 0 = [⟨2, 3, [98]⟩, ⟨1, 2, [97]⟩] by rfl] at s4
  rw [show moveOk [⟨1, 2, [97]⟩, ⟨2, 3, [98]⟩] 1 0 = true by rfl]
  go_wp2_with (fail)
  refine (st_split s4 4 (by decide)).mono ?_
  rintro e w5 ⟨rfl, s5⟩
  go_wp2_with (fail)
  refine (st_take s5 good2 0).mono ?_
  rintro e w6 ⟨s6, _, v6, rfl, _⟩
  rw [show taken [⟨2, 3, [98]⟩, ⟨1, 2, [97]⟩] 4 0 = [⟨2, 3, [98]⟩, ⟨1, 2, [97]⟩] by rfl] at s6
  rw [show takeOk [⟨2, 3, [98]⟩, ⟨1, 2, [97]⟩] 4 0 = false by rfl]
  go_wp2_with (fail)
  refine (st_split s6 0 (by decide)).mono ?_
  rintro e w7 ⟨rfl, s7⟩
  go_wp2_with (fail)
  refine (st_take s7 good2 0).mono ?_
  rintro e w8 ⟨s8, _, v8, rfl, hby⟩
  rw [show taken [⟨2, 3, [98]⟩, ⟨1, 2, [97]⟩] 0 0 = [⟨1, 2, [97]⟩] by rfl] at s8
  rw [show takeOk [⟨2, 3, [98]⟩, ⟨1, 2, [97]⟩] 0 0 = true by rfl, show tl [⟨2, 3, [98]⟩, ⟨1, 2, [97]⟩] 0 0 = ⟨2, 3, [98]⟩ by rfl]
  have ht := rd_text hby.rd
  obtain ⟨A8, k8, rfl⟩ := hby.form
  clear s1 s2 s3 s4 s5 s6 s7 hby
  go_wp2_with (fail)
  refine (st_len s8).mono ?_
  rintro e _ ⟨rfl, rfl⟩
  go_wp2_with (fail)
  refine (st_copy s8 (fun l hl => (good1 l hl).1) 0).mono ?_
  rintro e w9 ⟨rfl, s9⟩
  rw [show copied [⟨1, 2, [97]⟩] 0 = [⟨1, 2, [97]⟩, ⟨1, 2, [97]⟩] by rfl] at s9
  rw [show copyOk [⟨1, 2, [97]⟩] 0 = true by rfl]
  go_wp2_with (fail)
  refine (st_len s9).mono ?_
  rintro e _ ⟨rfl, rfl⟩
  go_wp2_with (fail)
  refine (st_reach s9 5 6 (by decide) (by decide) (by decide) (by decide)).mono ?_
  rintro e w10 ⟨rfl, s10⟩
  rw [show reach 0 5 6 = true by rfl]
  go_wp2_with (fail)
  refine (st_reach s10 5 64 (by decide) (by decide) (by decide) (by decide)).mono ?_
  rintro e w11 ⟨rfl, s11⟩
  rw [show reach 0 5 64 = false by rfl]
  go_wp2
  go_ret
  exact ⟨rfl, s11.2.1⟩
end Go.Proofs.Ytjhlabpnjkepbaa
