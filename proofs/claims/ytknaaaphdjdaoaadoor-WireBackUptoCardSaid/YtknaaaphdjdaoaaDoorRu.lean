/-
  Right, whole.
-/
import Derived.Test.YtknaaaphdjdaoaaDoorRt
import Derived.Test.YtknaaaphdjdaoaaDoorRv
import Derived.Test.YtknaaaphdjdaoaaDoorRua
import Derived.Test.YtknaaaphdjdaoaaDoorRub
import Derived.Test.YtknaaaphdjdaoaaDoorRuc
namespace Go.Proofs.YtknaaaphdjdaoaaDoor
open Go.RowKit Mem
set_option linter.unusedVariables false
set_option linter.unusedSimpArgs false

/-- Right, of every letter (of not too many entries). -/
theorem right_any (m : Lt) (ev nv dv : Value) (w : World) (hel : m.es.length ≤ 1048576) (h : LV w ev nv dv m) :
    Calls Tryd.prog 12 #[lval m ev nv dv] w fun en w' => en = .returned (.bool (rightB m)) ∧ Mod (fun _ => False) w w' := by
  obtain ⟨kd, fr, tt, tm, ix, lt, cm, rd, ok, es, si, st, sn, sd⟩ := m
  by_cases a : bw fr 1 5 = true ∧ bw tt 1 5 = true ∧ (fr == tt) = false ∧ bw tm 1 999999 = true
  · obtain ⟨a1, a2, a3, a4⟩ := a
    by_cases k1 : kd = 1
    · subst k1; exact right_1 fr tt tm ix lt cm rd ok es si st sn sd ev nv dv w a1 a2 a3 a4 h
    by_cases k2 : kd = 2
    · subst k2; exact right_2 fr tt tm ix lt cm rd ok es si st sn sd ev nv dv w a1 a2 a3 a4 h
    by_cases k3 : kd = 3
    · subst k3
      cases hG : (fine0 ⟨3, fr, tt, tm, ix, lt, cm, rd, ok, es, si, st, sn, sd⟩ && entsB ix tm 0 lt es) with
      | false => exact right_3f fr tt tm ix lt cm rd ok es si st sn sd ev nv dv w a1 a2 a3 a4 hel hG h
      | true =>
        by_cases h4 : es.length ≤ 4
        · exact right_3a fr tt tm ix lt cm rd ok es si st sn sd ev nv dv w a1 a2 a3 a4 hel hG h4 h
        · exact right_3b fr tt tm ix lt cm rd ok es si st sn sd ev nv dv w a1 a2 a3 a4 hel hG h4 h
    by_cases k4 : kd = 4
    · subst k4; exact right_4 fr tt tm ix lt cm rd ok es si st sn sd ev nv dv w a1 a2 a3 a4 h
    by_cases k5 : kd = 5
    · subst k5; exact right_5 fr tt tm ix lt cm rd ok es si st sn sd ev nv dv w a1 a2 a3 a4 h
    exact right_x kd fr tt tm ix lt cm rd ok es si st sn sd ev nv dv w a1 a2 a3 a4 k1 k2 k3 k4 k5 h
  · exact right_bad kd fr tt tm ix lt cm rd ok es si st sn sd ev nv dv w a h
end Go.Proofs.YtknaaaphdjdaoaaDoor
