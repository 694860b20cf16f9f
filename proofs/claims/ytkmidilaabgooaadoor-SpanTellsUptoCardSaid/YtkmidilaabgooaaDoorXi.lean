/-
  The document's inner.
-/
import Derived.Test.YtkmidilaabgooaaDoorXh
import Derived.Test.YtkmidilaabgooaaDoorWe
namespace Go.Proofs.YtkmidilaabgooaaDoor
open Go.RowKit Mem
set_option linter.unusedVariables false
set_option linter.unusedSimpArgs false

def mlf (b : UInt8) : UInt8 := if b == 10 then 32 else b
theorem strip_mlf (c : Bs) : strip c = if (c.map mlf).any (· != 32) && (c.map mlf).head? == some 32 && (c.map mlf).getLast? == some 32 then (c.map mlf).tail.dropLast else c.map mlf := rfl
theorem any_all32 (m : Bs) : m.any (· != 32) = !m.all (· == 32) := by
  induction m with
  | nil => rfl
  | cons b m ih => rw [List.any_cons, List.all_cons, ih, Bool.not_and]; rfl
theorem head_get {m : Bs} (h : 0 < m.length) : m.head? = some m[0] := by cases m with | nil => simp at h | cons _ _ => rfl
theorem last_get {m : Bs} (h : 0 < m.length) : m.getLast? = some (m[m.length - 1]'(by omega)) := by
  rw [List.getLast?_eq_getElem?, List.getElem?_eq_getElem (by omega)]
theorem mid_get (m : Bs) : m.tail.dropLast = (m.drop 1).take (m.length - 2) := by
  cases m with
  | nil => rfl
  | cons b m => simp [List.dropLast_eq_take]
/-- The bytes of a row, one by one. -/
theorem Byt.cells {w : World} {B n c : Nat} {A : Option Addr} {l : Bs} (h : Byt w B (.slice A n c) l) (hl : 0 < l.length) : ∃ g, A = some ⟨g, 0, none⟩ ∧ l.length ≤ c ∧ ∀ i (hi : i < l.length), w.cell? ⟨g, i, none⟩ = some (.int .u8 (l[i].toNat : Int)) := by
  rcases h with ⟨_, rfl⟩ | ⟨g, cap, cur, fz, hv, hb, hh, hf, hlc, hcm, hcs, htk⟩
  · simp at hl
  · injection hv with e1 e2 e3
    subst e1 e2 e3
    refine ⟨g, rfl, hlc, fun i hi => ?_⟩
    unfold World.cell?
    rw [hh]
    show cur[i]? = _
    have e : (byc l)[i]? = some (Value.int .u8 (l[i].toNat : Int)) := by simp [byc, hi]
    rw [← htk, List.getElem?_take_of_lt hi] at e
    simpa using e
section
variable {P : Program}
/-- The text of a part of a row. -/
theorem text_part {T S : TypeId} (hs : P.underlying T = some (.slice 5)) (h5 : P.underlying 5 = some (.int .u8)) (h9 : P.underlying S = some .string) {w : World} {g o n c : Nat} {l m : Bs} (hm : (l.drop o).take n = m) (hn : o + n ≤ l.length)
    (h : ∀ i (hi : i < l.length), w.cell? ⟨g, i, none⟩ = some (.int .u8 (l[i].toNat : Int))) : (convert T S (.slice (some ⟨g, o, none⟩) n c)).run P w = .ok (.string (sv m)) w := by
  have hml : m.length = n := by rw [← hm, List.length_take, List.length_drop]; omega
  have := run_convert_bytes_arg (P := P) w T 5 hs h5 g o n c (m.map fun b => (b.toNat : Int)) (by simp [hml]) (fun i hi => by
    rw [h (o + i) (by omega)]
    have e : ∀ m : Bs, (l.drop o).take n = m → m[i]? = some l[o + i] := fun m hm => by
      rw [← hm, List.getElem?_take_of_lt hi, List.getElem?_drop, List.getElem?_eq_getElem]
    have e := e m hm
    rw [List.getD_eq_getElem?_getD, List.getElem?_map, e]
    rfl) S h9
  rw [this]
  have e : strOfNums (m.map fun b => (b.toNat : Int)) = sv m := by
    apply ByteArray.ext
    apply Array.toList_inj.1
    rw [strOfNums_data, List.map_map, sv_list]
    have : ((fun n : Int => UInt8.ofNat n.toNat) ∘ fun b : UInt8 => (b.toNat : Int)) = id := by
      funext b; simp
    rw [this, List.map_id]
  rw [e]
end
theorem i32 {c : UInt8} {b : Bool} (h : ((c.toNat : Int) == 32) = b) : (c == 32) = b := ieq (n := 32) h
theorem take_map {l : Bs} {k : Nat} {b : UInt8} (hk : k < l.length) (hb : l[k] = b) : (l.take (k + 1)).map mlf = (l.take k).map mlf ++ [mlf b] := by
  rw [List.take_add_one, List.getElem?_eq_getElem hk, hb]; simp
theorem acc_step {l acc : Bs} {k : Nat} {b d : UInt8} {t t2 : Bool} (hk : k < l.length) (hb : l[k] = b) (hd : mlf b = d) (ha : (l.take k).map mlf = acc) (ht : acc.all (· == 32) = t) (h2 : (t && (d == 32)) = t2) : (l.take (k + 1)).map mlf = acc ++ [d] ∧ (acc ++ [d]).all (· == 32) = t2 := by
  refine ⟨by rw [take_map hk hb, ha, hd], ?_⟩
  rw [List.all_append, ht, ← h2]
  simp
set_option maxRecDepth 100000 in
set_option maxHeartbeats 2000000 in
theorem inner_any (l : Bs) (w : World) (hl : l.length ≤ 4294967280) :
    Calls Tryd.prog 25 #[.string (sv l)] w fun e w' => e = .returned (.string (sv (strip l))) ∧ Mod (fun _ => False) w w' := by
  have hsz := sv_size l
  have HG0 : Hid (Grow w w (.slice none 0 0) []) := Lib.hid ⟨Byt.nil _ _, Mod.refl _ _⟩
  have n32 : (((32 : UInt8).toNat : Nat) : Int) = 32 := rfl
  go_enter Tryd.func25, Tryd.ntmps25
  go_wp2
  go_loopw [3, 4, 5] (fun v al i wr => ∃ (k : Nat) (acc : Bs) (A : Option Addr) (c : Nat) (t : Bool), v = .slice A k c ∧ al = .bool t ∧ i = .int .i64 k ∧ k ≤ l.length ∧ Hid (acc.length = k) ∧ Hid (Grow w wr (.slice A k c) acc) ∧ Hid ((l.take k).map mlf = acc ∧ acc.all (· == 32) = t)) (fun _ _ i _ => l.length - (intOf i).toNat)
  case atStart => exact ⟨0, [], none, 0, true, rfl, rfl, rfl, by omega, Lib.hid rfl, HG0, Lib.hid ⟨rfl, rfl⟩⟩
  case round =>
    obtain ⟨k, acc, A, c, t, rfl, rfl, rfl, hk, hal, hG, hT⟩ := hrel
    by_cases hlt : k < l.length
    · have q1 : (k : Int) < (l.length : Int) := by omega
      obtain ⟨b, hb⟩ : ∃ b, l[k] = b := ⟨_, rfl⟩
      have hget : ∀ h, (sv l)[k]'h = b := fun _ => hb
      rcases e1 : ((b.toNat : Int) == 10) with _ | _
      · have hd : mlf b = b := by unfold mlf; rw [ieq (n := 10) e1]; rfl
        obtain ⟨A2, c2, w2, hr, hG2⟩ := hG.out.push b (by have := hal.out; omega)
        rw [hal.out] at hr hG2
        have HG2 := Lib.hid hG2
        have hst : ∀ t2, (t && (b == 32)) = t2 → Hid ((l.take (k + 1)).map mlf = acc ++ [b] ∧ (acc ++ [b]).all (· == 32) = t2) := fun t2 h => Lib.hid (acc_step hlt hb hd hT.out.1 hT.out.2 h)
        clear hd hT hG2 hb
        cases t with
        | false =>
          have H := hst false rfl
          clear hst
          go_wp2_with (at_builtin; refine wpList_append_run rfl _ _ 30 30 rfl _ _ rfl rfl hr ?_)
          go_roundw
          case rel => exact ⟨k + 1, acc ++ [b], A2, c2, false, rfl, rfl, by go_num, by omega, Lib.hid (by rw [List.length_append, hal.out]; rfl), HG2, H⟩
          case measure => simp [intOf]; omega
        | true =>
          rcases e2 : ((b.toNat : Int) == 32) with _ | _
          · have H := hst false (by rw [i32 e2]; rfl)
            clear hst
            go_wp2_with (at_builtin; refine wpList_append_run rfl _ _ 30 30 rfl _ _ rfl rfl hr ?_)
            go_roundw
            case rel => exact ⟨k + 1, acc ++ [b], A2, c2, false, rfl, rfl, by go_num, by omega, Lib.hid (by rw [List.length_append, hal.out]; rfl), HG2, H⟩
            case measure => simp [intOf]; omega
          · have H := hst true (by rw [i32 e2]; rfl)
            clear hst
            go_wp2_with (at_builtin; refine wpList_append_run rfl _ _ 30 30 rfl _ _ rfl rfl hr ?_)
            go_roundw
            case rel => exact ⟨k + 1, acc ++ [b], A2, c2, true, rfl, rfl, by go_num, by omega, Lib.hid (by rw [List.length_append, hal.out]; rfl), HG2, H⟩
            case measure => simp [intOf]; omega
      · have hd : mlf b = 32 := by unfold mlf; rw [ieq (n := 10) e1]; rfl
        obtain ⟨A2, c2, w2, hr, hG2⟩ := hG.out.push 32 (by have := hal.out; omega)
        rw [hal.out] at hr hG2
        rw [n32] at hr
        have HG2 := Lib.hid hG2
        have H : Hid ((l.take (k + 1)).map mlf = acc ++ [32] ∧ (acc ++ [32]).all (· == 32) = t) := Lib.hid (acc_step hlt hb hd hT.out.1 hT.out.2 (by cases t <;> rfl))
        clear hd hT hG2 hb
        cases t with
        | false =>
          go_wp2_with (at_builtin; refine wpList_append_run rfl _ _ 30 30 rfl _ _ rfl rfl hr ?_)
          go_roundw
          case rel => exact ⟨k + 1, acc ++ [32], A2, c2, false, rfl, rfl, by go_num, by omega, Lib.hid (by rw [List.length_append, hal.out]; rfl), HG2, H⟩
          case measure => simp [intOf]; omega
        | true =>
          go_wp2_with (at_builtin; refine wpList_append_run rfl _ _ 30 30 rfl _ _ rfl rfl hr ?_)
          go_roundw
          case rel => exact ⟨k + 1, acc ++ [32], A2, c2, true, rfl, rfl, by go_num, by omega, Lib.hid (by rw [List.length_append, hal.out]; rfl), HG2, H⟩
          case measure => simp [intOf]; omega
    · have q1 : ¬ ((k : Int) < (l.length : Int)) := by omega
      have hS : strip l = if acc.any (· != 32) && acc.head? == some 32 && acc.getLast? == some 32 then acc.tail.dropLast else acc := by
        have := hT.out.1
        rw [List.take_of_length_le (by omega)] at this
        rw [strip_mlf, this]
      rw [any_all32, hT.out.2] at hS
      have HS := Lib.hid hS
      have hct := hG.out.b.text (P := Tryd.prog) (T := 30) (S := 9) Tryd.underlying30 Tryd.underlying5 Tryd.underlying9
      have HT1 : Hid (∀ x, acc = [x] → (if (!t && ([x] : Bs).head? == some 32 && ([x] : Bs).getLast? == some 32) = true then ([x] : Bs).tail.dropLast else [x]) = [x]) := Lib.hid (fun x hx => by
        have h2 := hT.out.2
        rw [hx] at h2
        rw [← h2]
        simp)
      clear hT hS hlt
      have hk1 := hal.out
      by_cases h1 : 1 < k
      · have z1 : ((k : Nat) : Int) > 1 := by omega
        cases t with
        | true =>
          have HR : Hid (strip l = acc) := Lib.hid (by rw [HS.out]; rfl)
          clear HS
          go_wp2
          go_ret
          exact ⟨ret_val (by rw [HR.out]; rfl), hG.out.m⟩
        | false =>
          obtain ⟨g, rfl, hlc, hcells⟩ := hG.out.b.cells (by omega)
          obtain ⟨a, ha⟩ : ∃ a, acc[0] = a := ⟨_, rfl⟩
          obtain ⟨z, hz⟩ : ∃ z, acc[k - 1]'(by omega) = z := ⟨_, rfl⟩
          have hS2 : strip l = if (a == 32) && (z == 32) then (acc.drop 1).take (k - 2) else acc := by
            have hz2 : acc.getLast? = some z := by
              rw [last_get (show 0 < acc.length by omega), ← hz]
              simp [hk1]
            rw [HS.out, mid_get, head_get (show 0 < acc.length by omega), hz2, ha, hk1]
            cases h3 : a == 32 <;> cases h4 : z == 32 <;> simp_all
          have HS2 := Lib.hid hS2
          have hc0 := hcells 0 (by omega)
          rw [ha] at hc0
          have hcz := hcells (k - 1) (by omega)
          rw [hz] at hcz
          obtain ⟨m, hm⟩ : ∃ m, (acc.drop 1).take (k - 2) = m := ⟨_, rfl⟩
          have hmid := fun cc => text_part (P := Tryd.prog) (T := 30) (S := 9) Tryd.underlying30 Tryd.underlying5 Tryd.underlying9 (c := cc) hm (by omega) hcells
          rw [show k - 2 = k - 1 - 1 by omega] at hmid
          have b1 : 1 ≤ k - 1 := by omega
          have b2 : k - 1 ≤ c := by omega
          have b5 : ¬ c = 1 := by omega
          have b6 : k ≤ c + 1 := by omega
          have b3 : (1 : Int) ≤ (k : Int) - 1 := by omega
          have b4 : (k : Int) - 1 ≤ (c : Int) := by omega
          clear HS hS2 ha hz hcells hk1
          rcases e1 : ((a.toNat : Int) == 32) with _ | _
          · have HR : Hid (strip l = acc) := Lib.hid (by rw [HS2.out, i32 e1]; rfl)
            clear HS2 hm
            go_wp2
            go_ret
            exact ⟨ret_val (by rw [HR.out]; rfl), hG.out.m⟩
          · rcases e2 : ((z.toNat : Int) == 32) with _ | _
            · have HR : Hid (strip l = acc) := Lib.hid (by rw [HS2.out, i32 e1, i32 e2]; rfl)
              clear HS2 hm
              go_wp2
              go_ret
              exact ⟨ret_val (by rw [HR.out]; rfl), hG.out.m⟩
            · have HR : Hid (strip l = m) := Lib.hid (by rw [HS2.out, i32 e1, i32 e2, hm]; rfl)
              clear HS2 hm
              go_wp2
              go_ret
              exact ⟨ret_val (by rw [HR.out]; rfl), hG.out.m⟩
      · have z1 : ¬ ((k : Nat) : Int) > 1 := by omega
        have HR : Hid (strip l = acc) := Lib.hid (by
          rw [HS.out]
          cases acc with
          | nil => simp
          | cons x r =>
            cases r with
            | nil => exact HT1.out x rfl
            | cons y r => simp at hk1; omega)
        clear HS HT1 hk1
        go_wp2
        go_ret
        exact ⟨ret_val (by rw [HR.out]; rfl), hG.out.m⟩
end Go.Proofs.YtkmidilaabgooaaDoor
