/-
  Letters, plain and in memory; same.
-/
import Derived.Test.YtknaaaphdjdaoaaDoorGa
namespace Go.Proofs.YtknaaaphdjdaoaaDoor
open Go.RowKit Mem
set_option linter.unusedVariables false
set_option linter.unusedSimpArgs false

/-- A letter. -/
structure Lt where
  kd : Int
  fr : Int
  tt : Int
  tm : Int
  ix : Int
  lt : Int
  cm : Int
  rd : Int
  ok : Bool
  es : List En
  si : Int
  st : Int
  sn : List Int
  sd : Bs
/-- The entries, from number i on, behind term t. -/
def entsB (ix tm : Int) : Nat → Int → List En → Bool
  | _, _, [] => true
  | i, t, e :: r => (entryB e && (e.ix == ix + 1 + i) && bw e.tm t tm) && entsB ix tm (i + 1) e.tm r
/-- The snapshot is none. -/
def snap0 (m : Lt) : Bool := (m.si == 0) && (m.st == 0) && m.sn.isEmpty && m.sd.isEmpty
/-- Its numbers may be. -/
def fine0 (m : Lt) : Bool := bw m.ix 0 999999 && bw m.rd 0 1073741824 && bw m.lt 0 m.tm && bw m.cm 0 999999
def head0 (m : Lt) : Bool := bw m.fr 1 5 && bw m.tt 1 5 && !(m.fr == m.tt) && bw m.tm 1 999999
def kindR (m : Lt) : Bool :=
  if m.kd = 1 then m.es.isEmpty && snap0 m && (m.cm == 0) && (m.rd == 0) && !m.ok
  else if m.kd = 2 then m.es.isEmpty && snap0 m && (m.ix == 0) && (m.lt == 0) && (m.cm == 0) && (m.rd == 0)
  else if m.kd = 3 then entsB m.ix m.tm 0 m.lt m.es && decide (m.es.length ≤ 4) && snap0 m && !m.ok
  else if m.kd = 4 then m.es.isEmpty && snap0 m && (m.lt == 0) && (m.cm == 0)
  else if m.kd = 5 then (bw m.si 1 999998 && bw m.st 0 m.tm && groupB m.sn && decide (m.sd.length ≤ 300000)) && m.es.isEmpty && (m.ix == 0) && (m.lt == 0) && (m.cm == 0) && !m.ok
  else false
def rightB (m : Lt) : Bool := head0 m && fine0 m && kindR m
/-- A row of entries. -/
def RE (w : World) (x : Value) (es : List En) : Prop := (x = .slice none 0 0 ∧ es = []) ∨ ∃ a c, x = .slice (some a) es.length c ∧ es.length ≤ c ∧ c ≤ maxLen ∧ ∀ (j : Nat) e, es[j]? = some e → ∃ dv nv, w.cell? (a.add (j * 5)) = some (.int .i64 e.ix) ∧ w.cell? ⟨(a.add (j * 5)).block, (a.add (j * 5)).off + 1, none⟩ = some (.int .i64 e.tm) ∧ w.cell? ⟨(a.add (j * 5)).block, (a.add (j * 5)).off + 2, none⟩ = some (.int .i64 e.kd) ∧ w.cell? ⟨(a.add (j * 5)).block, (a.add (j * 5)).off + 3, none⟩ = some dv ∧ w.cell? ⟨(a.add (j * 5)).block, (a.add (j * 5)).off + 4, none⟩ = some nv ∧ RdC w dv e.dt ∧ RI w nv e.nd
theorem RE.mod {w w' : World} {x : Value} {es : List En} (h : RE w x es) (hm : Mod (fun _ => False) w w') : RE w' x es := by
  rcases h with h | ⟨a, c, hv, h1, h2, hc⟩
  · exact .inl h
  · refine .inr ⟨a, c, hv, h1, h2, fun j e hj => ?_⟩
    obtain ⟨dv, nv, c0, c1, c2, c3, c4, hd, hn⟩ := hc j e hj
    exact ⟨dv, nv, cell_keep hm c0 (fun h => h), cell_keep hm c1 (fun h => h), cell_keep hm c2 (fun h => h), cell_keep hm c3 (fun h => h), cell_keep hm c4 (fun h => h), hd.mod hm, hn.mod hm⟩
theorem RE.val {w : World} {x : Value} {es : List En} (h : RE w x es) : ∃ a c, x = .slice a es.length c := by
  rcases h with ⟨h, rfl⟩ | ⟨a, c, h, _⟩
  · exact ⟨_, _, h⟩
  · exact ⟨_, _, h⟩
/-- A letter's value: its parts. -/
def LV (w : World) (ev nv dv : Value) (m : Lt) : Prop := RE w ev m.es ∧ RI w nv m.sn ∧ RdC w dv m.sd
theorem LV.mod {w w' : World} {ev nv dv : Value} {m : Lt} (h : LV w ev nv dv m) (hm : Mod (fun _ => False) w w') : LV w' ev nv dv m := ⟨h.1.mod hm, h.2.1.mod hm, h.2.2.mod hm⟩
def lval (m : Lt) (ev nv dv : Value) : Value := .agg #[.int .i64 m.kd, .int .i64 m.fr, .int .i64 m.tt, .int .i64 m.tm, .int .i64 m.ix, .int .i64 m.lt, .int .i64 m.cm, .int .i64 m.rd, .bool m.ok, ev, .int .i64 m.si, .int .i64 m.st, nv, dv]
def sameB (kd ix lt cm rd : Int) (ok : Bool) (kd' ix' lt' cm' rd' : Int) (ok' : Bool) : Bool := (kd == kd') && (ix == ix') && (lt == lt') && (cm == cm') && (rd == rd') && (ok == ok')
set_option maxRecDepth 100000 in
set_option maxHeartbeats 3200000 in
theorem same_any (kd fr tt tm ix lt cm rd si st : Int) (ok : Bool) (e1 n1 d1 : Option Addr) (e2 e3 n2 n3 d2 d3 : Nat) (kd' ix' lt' cm' rd' : Int) (ok' : Bool) (w : World) :
    Calls Tryd.prog 30 #[.agg #[.int .i64 kd, .int .i64 fr, .int .i64 tt, .int .i64 tm, .int .i64 ix, .int .i64 lt, .int .i64 cm, .int .i64 rd, .bool ok, .slice e1 e2 e3, .int .i64 si, .int .i64 st, .slice n1 n2 n3, .slice d1 d2 d3], .agg #[.int .i64 kd', .int .i64 0, .int .i64 0, .int .i64 0, .int .i64 ix', .int .i64 lt', .int .i64 cm', .int .i64 rd', .bool ok', .slice none 0 0, .int .i64 0, .int .i64 0, .slice none 0 0, .slice none 0 0]] w fun en w' => en = .returned (.bool (sameB kd ix lt cm rd ok kd' ix' lt' cm' rd' ok')) ∧ Mod (fun _ => False) w w' := by
  go_enter Tryd.func30, Tryd.ntmps30
  have HM := Lib.hid (((Mod.refl (fun _ => False) w).alloc (Obj.cells #[.int .i64 kd, .int .i64 fr, .int .i64 tt, .int .i64 tm, .int .i64 ix, .int .i64 lt, .int .i64 cm, .int .i64 rd, .bool ok, .slice e1 e2 e3, .int .i64 si, .int .i64 st, .slice n1 n2 n3, .slice d1 d2 d3] 28)).alloc (Obj.cells #[.int .i64 kd', .int .i64 0, .int .i64 0, .int .i64 0, .int .i64 ix', .int .i64 lt', .int .i64 cm', .int .i64 rd', .bool ok', .slice none 0 0, .int .i64 0, .int .i64 0, .slice none 0 0, .slice none 0 0] 28))
  unfold sameB
  obtain ⟨x1, h1⟩ : ∃ x, (kd == kd') = x := ⟨_, rfl⟩
  obtain ⟨x2, h2⟩ : ∃ x, (ix == ix') = x := ⟨_, rfl⟩
  obtain ⟨x3, h3⟩ : ∃ x, (lt == lt') = x := ⟨_, rfl⟩
  obtain ⟨x4, h4⟩ : ∃ x, (cm == cm') = x := ⟨_, rfl⟩
  obtain ⟨x5, h5⟩ : ∃ x, (rd == rd') = x := ⟨_, rfl⟩
  obtain ⟨x6, h6⟩ : ∃ x, (ok == ok') = x := ⟨_, rfl⟩
  simp only [h1, h2, h3, h4, h5, h6]
  go_wp2_with (fail)
  all_goals
    go_ret
    refine ⟨?_, HM.out⟩
    show Ending.returned (Value.bool _) = Ending.returned (Value.bool _)
    congr 2
    clear HM
    simp_all
end Go.Proofs.YtknaaaphdjdaoaaDoor
