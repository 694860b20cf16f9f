/-
  word: letters of a text behind a first one.
-/
import Derived.Test.YtkmidilaabgooaaDoorBy
namespace Go.Proofs.YtkmidilaabgooaaDoor
open Go.RowKit Mem
set_option linter.unusedVariables false
set_option linter.unusedSimpArgs false

def ldB (c : UInt8) : Bool := (97 ≤ c && c ≤ 122) || (48 ≤ c && c ≤ 57)
theorem ldB_nat (c : UInt8) : ldB c = ((decide ((97 : Int) ≤ c.toNat) && decide ((c.toNat : Int) ≤ 122)) || (decide ((48 : Int) ≤ c.toNat) && decide ((c.toNat : Int) ≤ 57))) := by
  have e1 : decide ((97 : UInt8) ≤ c) = decide ((97 : Int) ≤ c.toNat) := by rw [Bool.eq_iff_iff]; simp [UInt8.le_iff_toNat_le]; omega
  have e2 : decide (c ≤ (122 : UInt8)) = decide ((c.toNat : Int) ≤ 122) := by rw [Bool.eq_iff_iff]; simp [UInt8.le_iff_toNat_le]; omega
  have e3 : decide ((48 : UInt8) ≤ c) = decide ((48 : Int) ≤ c.toNat) := by rw [Bool.eq_iff_iff]; simp [UInt8.le_iff_toNat_le]; omega
  have e4 : decide (c ≤ (57 : UInt8)) = decide ((c.toNat : Int) ≤ 57) := by rw [Bool.eq_iff_iff]; simp [UInt8.le_iff_toNat_le]; omega
  unfold ldB
  rw [e1, e2, e3, e4]
/-- Bytes of a kind, behind some, at most so many. -/
def takeF (p : UInt8 → Bool) (most : Nat) : Bs → Bs → Bs
  | acc, [] => acc
  | acc, c :: s => if acc.length < most then (if p c then takeF p most (acc ++ [c]) s else takeF p most acc s) else acc
theorem takeF_stop {p : UInt8 → Bool} {most : Nat} {acc s : Bs} (h : ¬ acc.length < most) : takeF p most acc s = acc := by
  cases s with
  | nil => rfl
  | cons c s => unfold takeF; rw [if_neg h]
theorem takeF_yes {p : UInt8 → Bool} {most : Nat} {acc s : Bs} {c : UInt8} (h : acc.length < most) (hp : p c = true) : takeF p most acc (c :: s) = takeF p most (acc ++ [c]) s := by
  rw [takeF, if_pos h, if_pos hp]
theorem takeF_no {p : UInt8 → Bool} {most : Nat} {acc s : Bs} {c : UInt8} (h : acc.length < most) (hp : p c = false) : takeF p most acc (c :: s) = takeF p most acc s := by
  rw [takeF, if_pos h, hp]; rfl
theorem takeF_is (p : UInt8 → Bool) (most : Nat) : ∀ (s acc : Bs), ∃ x, takeF p most acc s = acc ++ x ∧ (∀ b ∈ x, p b = true) ∧ ((acc ++ x).length ≤ most ∨ x = []) ∧ ∀ b ∈ x, b ∈ s
  | [], acc => ⟨[], by simp [takeF], by simp, .inr rfl, by simp⟩
  | c :: s, acc => by
    by_cases h : acc.length < most
    · by_cases hp : p c = true
      · rw [takeF_yes h hp]
        obtain ⟨x, h1, h2, h3, h4⟩ := takeF_is p most s (acc ++ [c])
        refine ⟨c :: x, by rw [h1]; simp, ?_, ?_, ?_⟩
        · intro b hb
          rcases List.mem_cons.1 hb with rfl | hb
          · exact hp
          · exact h2 b hb
        · left
          rcases h3 with h3 | rfl
          · simpa using h3
          · simp; omega
        · intro b hb
          rcases List.mem_cons.1 hb with rfl | hb
          · exact List.mem_cons_self ..
          · exact List.mem_cons_of_mem _ (h4 b hb)
      · rw [takeF_no h (by simpa using hp)]
        obtain ⟨x, h1, h2, h3, h4⟩ := takeF_is p most s acc
        exact ⟨x, h1, h2, h3, fun b hb => List.mem_cons_of_mem _ (h4 b hb)⟩
    · rw [takeF_stop h]
      exact ⟨[], by simp, by simp, .inr rfl, by simp⟩
/-- A row that grows. -/
structure Grow (w wr : World) (v : Value) (acc : Bs) : Prop where
  b : Byt wr w.heap.size v acc
  m : Mod (fun _ => False) w wr
theorem Grow.push {w wr : World} {v : Value} {acc : Bs} (h : Grow w wr v acc) (b : UInt8) (hl : acc.length + 1 ≤ 140737488355328) :
    ∃ A k w', (Builtin.append_ #[30, 30] 30 #[v, .slice (some ⟨wr.heap.size, 0, none⟩) 1 1]).run Tryd.prog (wr.alloc (.cells #[.int .u8 (b.toNat : Int)] 5)) = .ok (.slice A (acc.length + 1) k) w' ∧ Grow w w' (.slice A (acc.length + 1) k) (acc ++ [b]) := by
  have hal : Mod (fun _ => False) wr (wr.alloc (.cells #[.int .u8 (b.toNat : Int)] 5)) := (Mod.refl _ _).alloc _
  obtain ⟨A, k, w', hr, hb, hm⟩ := (h.b.mod hal (fun _ _ h => h)).push (P := Tryd.prog) (T := 30) Tryd.underlying30 (by kernel_rfl) wr.heap.size 1 b (Blk.new _ _ _) hl (Nat.le_trans h.m.size hal.size)
  exact ⟨A, k, w', hr, hb, (h.m.trans hal (fun _ h => h.elim)).trans hm (fun i hi => .inr (h.b.lt hi).1)⟩

set_option maxRecDepth 100000 in
set_option maxHeartbeats 2000000 in
theorem word_any (f s : Bs) (most : Nat) (w : World) (hm : most ≤ 100000) (hs : s.length ≤ 1048576) (hf : f.length ≤ 100) :
    Calls Tryd.prog 18 #[.string (sv f), .string (sv s), .int .i64 (most : Int)] w fun e w' => e = .returned (.string (sv (takeF ldB most f s))) ∧ Mod (fun _ => False) w w' := by
  have hcv := fun w s => run_bytes_of_string (P := Tryd.prog) w 9 30 5 s Tryd.underlying9 Tryd.underlying30 Tryd.underlying5
  have hsz := sv_size s
  have hfz := sv_size f
  have HG0 : ∀ c n m, f.length ≤ c → c ≤ maxLen → c ≤ n → Hid (Grow w (w.alloc (.cells (bytesRow (sv f) c) 5 (n, m))).drew (.slice (some ⟨w.heap.size, 0, none⟩) f.length c) f) := fun c n m h1 h2 h3 => Lib.hid ⟨byt_conv w f c n m h1 h2 h3, ((Mod.refl _ _).alloc _).drew⟩
  go_enter Tryd.func18, Tryd.ntmps18
  go_wp2
  go_loopw [7, 8] (fun v i wr => ∃ (k : Nat) (acc : Bs) (A : Option Addr) (c : Nat), v = .slice A acc.length c ∧ i = .int .i64 k ∧ k ≤ s.length ∧ acc.length ≤ 100000 ∧ Hid (Grow w wr (.slice A acc.length c) acc) ∧ Hid (takeF ldB most f s = takeF ldB most acc (s.drop k))) (fun _ i _ => s.length - (intOf i).toNat)
  case atStart =>
    refine ⟨0, f, _, _, rfl, rfl, by omega, by omega, HG0 _ _ _ ?_ ?_ ?_, Lib.hid rfl⟩
    · exact grownCap_ge _ _ _ _
    · exact grownCap_le_maxLen _ _ _ _ (by unfold maxLen; omega)
    · have e : (sv f).data.size = f.length := rfl
      have e2 : (sv f).size = f.length := rfl
      simp only [bytesRow, Array.size_append, Array.size_map, Array.size_replicate, e, e2]
      omega
  case round =>
    obtain ⟨k, acc, A, c, rfl, rfl, hk, hal, hG, hT⟩ := hrel
    by_cases hlt : k < s.length ∧ acc.length < most
    · obtain ⟨h1, h2⟩ := hlt
      have q1 : (k : Int) < (s.length : Int) := by omega
      have q2 : (acc.length : Int) < (most : Int) := by omega
      obtain ⟨b, hb⟩ : ∃ b, s[k] = b := ⟨_, rfl⟩
      have hget : ∀ h, (sv s)[k]'h = b := fun _ => hb
      have hdk : s.drop k = b :: s.drop (k + 1) := by rw [List.drop_eq_getElem_cons h1, hb]
      have HY : Hid (ldB b = true → takeF ldB most f s = takeF ldB most (acc ++ [b]) (s.drop (k + 1))) := Lib.hid (fun h => by rw [hT.out, hdk, takeF_yes h2 h])
      have HN : Hid (ldB b = false → takeF ldB most f s = takeF ldB most acc (s.drop (k + 1))) := Lib.hid (fun h => by rw [hT.out, hdk, takeF_no h2 h])
      have hld := ldB_nat b
      have HLD := Lib.hid hld
      clear hdk hb hT hld
      obtain ⟨A2, c2, w2, hr, hG2⟩ := hG.out.push b (by omega)
      have HG2 := Lib.hid hG2
      clear hG2
      have hx : ((b.toNat : Int) < 48) ∨ ((48 : Int) ≤ b.toNat ∧ (b.toNat : Int) ≤ 57) ∨ ((57 : Int) < b.toNat ∧ (b.toNat : Int) < 97) ∨ ((97 : Int) ≤ b.toNat ∧ (b.toNat : Int) ≤ 122) ∨ ((122 : Int) < b.toNat) := by omega
      rcases hx with hx | hx | hx | hx | hx
      · skip
        have p1 : ¬ ((97 : Int) ≤ b.toNat) := by omega
        have p2 : ¬ ((48 : Int) ≤ b.toNat) := by omega
        have HN2 := Lib.hid (HN.out (by rw [HLD.out, decide_eq_false (show ¬ (97 : Int) ≤ b.toNat by omega), decide_eq_false (show ¬ (48 : Int) ≤ b.toNat by omega)]; rfl))
        clear HY HN HLD
        go_wp2
        go_roundw
        case rel => exact ⟨k + 1, acc, A, c, rfl, by go_num, by omega, hal, hG, HN2⟩
        case measure => simp [intOf]; omega
      · skip
        have p1 : ¬ ((97 : Int) ≤ b.toNat) := by omega
        have p2 : (48 : Int) ≤ b.toNat := by omega
        have p3 : (b.toNat : Int) ≤ 57 := by omega
        have HY2 := Lib.hid (HY.out (by rw [HLD.out, decide_eq_false (show ¬ (97 : Int) ≤ b.toNat by omega), decide_eq_true (show (48 : Int) ≤ b.toNat by omega), decide_eq_true (show (b.toNat : Int) ≤ 57 by omega)]; rfl))
        clear HY HN HLD
        go_wp2_with (at_builtin; refine wpList_append_run rfl _ _ 30 30 rfl _ _ rfl rfl hr ?_)
        go_roundw
        case rel => exact ⟨k + 1, acc ++ [b], A2, c2, by rw [List.length_append]; rfl, by go_num, by omega, by rw [List.length_append]; simp; omega, by rw [List.length_append]; exact HG2, HY2⟩
        case measure => simp [intOf]; omega
      · skip
        have p1 : ¬ ((97 : Int) ≤ b.toNat) := by omega
        have p2 : (48 : Int) ≤ b.toNat := by omega
        have p3 : ¬ ((b.toNat : Int) ≤ 57) := by omega
        have HN2 := Lib.hid (HN.out (by rw [HLD.out, decide_eq_false (show ¬ (97 : Int) ≤ b.toNat by omega), decide_eq_true (show (48 : Int) ≤ b.toNat by omega), decide_eq_false (show ¬ (b.toNat : Int) ≤ 57 by omega)]; rfl))
        clear HY HN HLD
        go_wp2
        go_roundw
        case rel => exact ⟨k + 1, acc, A, c, rfl, by go_num, by omega, hal, hG, HN2⟩
        case measure => simp [intOf]; omega
      · skip
        have p1 : (97 : Int) ≤ b.toNat := by omega
        have p2 : (b.toNat : Int) ≤ 122 := by omega
        have HY2 := Lib.hid (HY.out (by rw [HLD.out, decide_eq_true (show (97 : Int) ≤ b.toNat by omega), decide_eq_true (show (b.toNat : Int) ≤ 122 by omega)]; rfl))
        clear HY HN HLD
        go_wp2_with (at_builtin; refine wpList_append_run rfl _ _ 30 30 rfl _ _ rfl rfl hr ?_)
        go_roundw
        case rel => exact ⟨k + 1, acc ++ [b], A2, c2, by rw [List.length_append]; rfl, by go_num, by omega, by rw [List.length_append]; simp; omega, by rw [List.length_append]; exact HG2, HY2⟩
        case measure => simp [intOf]; omega
      · skip
        have p1 : (97 : Int) ≤ b.toNat := by omega
        have p2 : ¬ ((b.toNat : Int) ≤ 122) := by omega
        have p3 : (48 : Int) ≤ b.toNat := by omega
        have p4 : ¬ ((b.toNat : Int) ≤ 57) := by omega
        have HN2 := Lib.hid (HN.out (by rw [HLD.out, decide_eq_true (show (97 : Int) ≤ b.toNat by omega), decide_eq_false (show ¬ (b.toNat : Int) ≤ 122 by omega), decide_eq_true (show (48 : Int) ≤ b.toNat by omega), decide_eq_false (show ¬ (b.toNat : Int) ≤ 57 by omega)]; rfl))
        clear HY HN HLD
        go_wp2
        go_roundw
        case rel => exact ⟨k + 1, acc, A, c, rfl, by go_num, by omega, hal, hG, HN2⟩
        case measure => simp [intOf]; omega
    · have hx : k = s.length ∨ (k < s.length ∧ ¬ acc.length < most) := by omega
      have HR : Hid (takeF ldB most f s = acc) := Lib.hid (by
        rw [hT.out]
        by_cases hm2 : acc.length < most
        · have : k = s.length := by omega
          rw [this, List.drop_length]; rfl
        · exact takeF_stop hm2)
      have hct := hG.out.b.text (P := Tryd.prog) (T := 30) (S := 9) Tryd.underlying30 Tryd.underlying5 Tryd.underlying9
      clear hlt hT hcv
      rcases hx with hx | ⟨hx1, hx2⟩
      · have q1 : ¬ ((k : Int) < (s.length : Int)) := by omega
        go_wp2
        go_ret
        exact ⟨ret_val (by rw [HR.out]; rfl), hG.out.m⟩
      · have q1 : (k : Int) < (s.length : Int) := by omega
        have q2 : ¬ ((acc.length : Int) < (most : Int)) := by omega
        go_wp2
        go_ret
        exact ⟨ret_val (by rw [HR.out]; rfl), hG.out.m⟩
end Go.Proofs.YtkmidilaabgooaaDoor
