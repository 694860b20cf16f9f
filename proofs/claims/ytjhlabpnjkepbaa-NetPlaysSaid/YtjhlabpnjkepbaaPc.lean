/-
  NetPlays: two nets by turns.
-/
import Derived.Test.YtjhlabpnjkepbaaPb
namespace Go.Proofs.Ytjhlabpnjkepbaa
open Go.RowKit Mem
set_option linter.unusedVariables false

/-- One step that came in. -/
def IsOp (B : Nat) (w : World) (ad : Addr) : Prop := ∃ (k a b : Int) (d : Value) (bb : List UInt8) (sd : Nat),
  w.cell? ad = some (.int .i64 k) ∧ w.cell? ⟨ad.block, ad.off + 1, none⟩ = some (.int .i64 a) ∧ w.cell? ⟨ad.block, ad.off + 2, none⟩ = some (.int .i64 b) ∧ w.cell? ⟨ad.block, ad.off + 3, none⟩ = some d ∧ w.cell? ⟨ad.block, ad.off + 4, none⟩ = some (.int .u64 sd) ∧
  Old B w d bb ∧ sd < 18446744073709551616 ∧ -9223372036854775808 ≤ a ∧ a ≤ 9223372036854775807 ∧ -9223372036854775808 ≤ b ∧ b ≤ 9223372036854775807
/-- The steps that came in. -/
def IsOps (w : World) (a : Option Addr) (len cap : Nat) : Prop :=
  (a = none ∧ len = 0 ∧ cap = 0) ∨ ∃ x, a = some x ∧ len ≤ cap ∧ cap ≤ maxLen ∧ ∀ i, i < len → IsOp w.heap.size w (x.add (i * 5))
theorem IsOp.mod {B : Nat} {w w' : World} {ad : Addr} (h : IsOp B w ad) (hm : Mod (fun _ => False) w w') : IsOp B w' ad := by
  obtain ⟨k, a, b, d, bb, sd, h0, h1, h2, h3, h4, h5, h6⟩ := h
  exact ⟨k, a, b, d, bb, sd, cell_mod hm h0 (fun h => h), cell_mod hm h1 (fun h => h), cell_mod hm h2 (fun h => h), cell_mod hm h3 (fun h => h), cell_mod hm h4 (fun h => h), h5.mod hm (fun _ h => h.elim), h6⟩

theorem NetAt.low {B B' g s : Nat} {w : World} {v : Value} {L : List Let} (h : NetAt B w g v L s) (hB : B' ≤ B) : NetAt B' w g v L s := by
  obtain ⟨xs, ho, hl⟩ := h.own
  exact ⟨h.blk, ⟨xs, own_base ho hB, hl⟩, Nat.le_trans hB h.base, h.sides, h.few⟩
/-- A new net, a new document's net. -/
theorem side_start {B g h : Nat} {w : World} (hn : NetAt B w g (.slice none 0 0) [] 0) (hh : Blk w h #[.slice none 0 0, .int .u64 0] 30) (hB : B ≤ h) : Side B w g h (.slice none 0 0) (.slice none 0 0) [] 0 :=
  ⟨hn, ⟨hh, World.ownsRow_nil _ _ _ _, hB, by decide, by decide⟩, fun l hl => by cases hl⟩

/-- Both games. -/
def Two (w : World) (ga ha gb hb : Nat) (wr : World) : Prop := ∃ va xa La sa vb xb Lb sb, Side w.heap.size wr ga ha va xa La sa ∧ Side w.heap.size wr gb hb vb xb Lb sb ∧ (∀ i, foot ga va ha xa i → ¬ foot gb vb hb xb i) ∧ Mod (fun _ => False) w wr
theorem Side.lt {B g h s : Nat} {w : World} {v x : Value} {L : List Let} (hS : Side B w g h v x L s) {i : Nat} (hi : foot g v h x i) : i < w.heap.size := by
  obtain ⟨cs, t, hb, _⟩ := hS.typ hi
  exact hb.lt
theorem Side.apart {B g h g2 h2 s s2 : Nat} {w w' : World} {v x v2 x2 : Value} {L L2 : List Let} (hS : Side B w g h v x L s) (hT : Side B w g2 h2 v2 x2 L2 s2) (hd : ∀ i, foot g v h x i → ¬ foot g2 v2 h2 x2 i) (hm : Mod (foot g v h x) w w') : Side B w' g2 h2 v2 x2 L2 s2 := by
  refine ⟨hT.n.mod hm (fun hi => hd _ hi (.inl rfl)) (fun a ha hi => hd _ hi (.inr (.inl ha))) (fun d cs hb hi => ?_), hT.r.mod hm (fun hi => hd _ hi (.inr (.inr (.inl rfl)))) (fun a ha hi => hd _ hi (.inr (.inr (.inr ha)))), hT.good⟩
  obtain ⟨cs', t, hb', ht, _⟩ := hS.typ hi
  rcases ht with rfl | rfl | rfl | rfl
  · exact Blk.ne hb hb' (by decide) rfl
  · exact Blk.ne hb hb' (by decide) rfl
  · exact Blk.ne hb hb' (by decide) rfl
  · exact Blk.ne hb hb' (by decide) rfl
theorem two_a {w wr w' : World} {ga ha gb hb sa sb : Nat} {va xa vb xb : Value} {La Lb : List Let} (hA : Side w.heap.size wr ga ha va xa La sa) (hB : Side w.heap.size wr gb hb vb xb Lb sb) (hd : ∀ i, foot ga va ha xa i → ¬ foot gb vb hb xb i) (hm : Mod (fun _ => False) w wr) (hk : SideK w.heap.size wr ga ha va xa w') : Two w ga ha gb hb w' := by
  obtain ⟨v', x', L', s', h1, h2, h3⟩ := hk
  refine ⟨v', x', L', s', vb, xb, Lb, sb, h1, hA.apart hB hd h3, fun i hi hj => ?_, hm.trans h3 (fun i hi => .inr ?_)⟩
  · rcases h2 i hi with h | h
    · exact hd i h hj
    · have := hB.lt hj; omega
  · obtain ⟨_, _, _, _, h⟩ := hA.typ hi
    exact h
theorem two_b {w wr w' : World} {ga ha gb hb sa sb : Nat} {va xa vb xb : Value} {La Lb : List Let} (hA : Side w.heap.size wr ga ha va xa La sa) (hB : Side w.heap.size wr gb hb vb xb Lb sb) (hd : ∀ i, foot ga va ha xa i → ¬ foot gb vb hb xb i) (hm : Mod (fun _ => False) w wr) (hk : SideK w.heap.size wr gb hb vb xb w') : Two w ga ha gb hb w' := by
  obtain ⟨va', xa', La', sa', vb', xb', Lb', sb', h1, h2, h3, h4⟩ := two_a hB hA (fun i hi hj => hd i hj hi) hm hk
  exact ⟨_, _, _, _, _, _, _, _, h2, h1, fun i hi hj => h3 i hj hi, h4⟩
theorem Two.new {w w1 w2 : World} {ga ha gb hb : Nat} (h : Two w ga ha gb hb w1) (hm : Mod (fun _ => False) w1 w2) : Two w ga ha gb hb w2 := by
  obtain ⟨va, xa, La, sa, vb, xb, Lb, sb, h1, h2, h3, h4⟩ := h
  exact ⟨va, xa, La, sa, vb, xb, Lb, sb, h1.new hm, h2.new hm, h3, h4.trans hm (fun _ h => h.elim)⟩
/-- Bytes that came out are written to. -/
def Out8 (v : Value) (A : Option Addr) (n : Nat) (w2 wr : World) : Prop := Mod (fun i => v.ownBlock = some i) w2 wr ∧ (n = 0 ∨ ∃ gl, A = some ⟨gl, 0, none⟩ ∧ LentK gl n w2 wr)

theorem two_start {w wa w1 w2 : World} {ga gb : Nat} (hma : Mod (fun _ => False) w wa) (hm1 : Mod (fun _ => False) wa w1) (hm2 : Mod (fun _ => False) w1 w2) (hna : NetAt wa.heap.size w1 ga (.slice none 0 0) [] 0) (hnb : NetAt w1.heap.size w2 gb (.slice none 0 0) [] 0) (hga : wa.heap.size ≤ ga) (hgb : w1.heap.size ≤ gb) :
    Two w ga w2.heap.size gb (w2.heap.size + 1) ((w2.alloc (.cells #[.slice none 0 0, .int .u64 0] 30)).alloc (.cells #[.slice none 0 0, .int .u64 0] 30)) := by
  have hs1 := hma.size
  have hs2 := hm1.size
  have hs3 := hm2.size
  have hm3 : Mod (fun _ => False) w2 ((w2.alloc (.cells #[.slice none 0 0, .int .u64 0] 30)).alloc (.cells #[.slice none 0 0, .int .u64 0] 30)) := ((Mod.refl _ _).alloc _).alloc _
  have hA := ((hna.new hm2 (fun _ h => h.elim)).new hm3 (fun _ h => h.elim)).low hs1
  have hB := (hnb.new hm3 (fun _ h => h.elim)).low (Nat.le_trans hs1 hs2)
  have b1 : Blk ((w2.alloc (.cells #[.slice none 0 0, .int .u64 0] 30)).alloc (.cells #[.slice none 0 0, .int .u64 0] 30)) w2.heap.size #[.slice none 0 0, .int .u64 0] 30 := (Blk.new w2 _ 30).alloc _
  have b2 : Blk ((w2.alloc (.cells #[.slice none 0 0, .int .u64 0] 30)).alloc (.cells #[.slice none 0 0, .int .u64 0] 30)) (w2.heap.size + 1) #[.slice none 0 0, .int .u64 0] 30 := by
    have := Blk.new (w2.alloc (.cells #[.slice none 0 0, .int .u64 0] 30)) #[.slice none 0 0, .int .u64 0] 30
    simpa using this
  have l1 := hna.blk.lt
  have l2 := hnb.blk.lt
  refine ⟨_, _, _, _, _, _, _, _, side_start hA b1 (by omega), side_start hB b2 (by omega), fun i hi hj => ?_, ((hma.trans hm1 (fun _ h => h.elim)).trans hm2 (fun _ h => h.elim)).trans hm3 (fun _ h => h.elim)⟩
  simp only [foot, Value.ownBlock] at hi hj
  simp at hi hj
  omega
set_option maxRecDepth 100000 in
set_option maxHeartbeats 6400000 in
theorem plays_any (a0 : Option Addr) (len0 cap0 : Nat) (w : World) (h0 : IsOps w a0 len0 cap0) (hl0 : len0 ≤ maxLen) :
    Calls Try.prog 3 #[.slice a0 len0 cap0] w fun e w' => e = .returned (.bool true) ∧ Below w.heap.size w w' := by
  unfold maxLen at hl0
  have H0 := Lib.hid h0
  clear h0
  go_enter Try.func3, Try.ntmps3
  go_wp2_with (fail)
  refine (shown_any w).mono ?_
  rintro e wa ⟨rfl, hma⟩
  go_wp2_with (fail)
  refine (new_any wa).mono ?_
  rintro e w1 ⟨ga, hga, rfl, hna, hm1⟩
  go_wp2_with (fail)
  refine (new_any w1).mono ?_
  rintro e w2 ⟨gb, hgb, rfl, hnb, hm2⟩
  have HA := Lib.hid (show Mod (fun _ => False) w wa ∧ Mod (fun _ => False) wa w1 ∧ Mod (fun _ => False) w1 w2 ∧ NetAt wa.heap.size w1 ga (.slice none 0 0) [] 0 ∧ NetAt w1.heap.size w2 gb (.slice none 0 0) [] 0 ∧ wa.heap.size ≤ ga ∧ w1.heap.size ≤ gb from ⟨hma, hm1, hm2, hna, hnb, hga, hgb⟩)
  clear hma hm1 hm2 hna hnb hga hgb
  have HT0 := Lib.hid (two_start HA.out.1 HA.out.2.1 HA.out.2.2.1 HA.out.2.2.2.1 HA.out.2.2.2.2.1 HA.out.2.2.2.2.2.1 HA.out.2.2.2.2.2.2)
  go_wp2
  obtain ⟨ha, hha⟩ : ∃ ha, w2.heap.size = ha := ⟨_, rfl⟩
  obtain ⟨hb, hhb⟩ : ∃ hb, w2.heap.size + 1 = hb := ⟨_, rfl⟩
  rw [hhb, hha] at HT0 ⊢
  clear HA hha hhb
  go_loopw [8] (fun i wr => ∃ j : Nat, i = .int .i64 j ∧ j ≤ len0 ∧ j ≤ 300 ∧ Hid (Two w ga ha gb hb wr)) (fun i _ => len0 - (intOf i).toNat)
  case atStart => exact ⟨0, rfl, by omega, by omega, HT0⟩
  case round =>
    obtain ⟨j, rfl, hj, hj3, hT⟩ := hrel
    by_cases hlt : j < len0 ∧ j < 300
    · have hlt1 := hlt.1
      have hlt2 := hlt.2
      rcases H0.out with ⟨_, h, _⟩ | ⟨x, rfl, hlc, hcm, hops⟩
      · omega
      have hop := hops j hlt1
      obtain ⟨va, xa, La, sa, vb, xb, Lb, sb, hSa, hSb, hdj, hmw⟩ := hT.out
      have hop2 := hop.mod hmw
      obtain ⟨k, a, b, d, bb, sd, c0, c1, c2, c3, c4, hold, hsd, ha1, ha2, hb1, hb2⟩ := hop2
      unfold maxLen at hcm
      have HOld := Lib.hid hold
      have HSa := Lib.hid hSa
      have HSb := Lib.hid hSb
      have HDj := Lib.hid hdj
      have HMw := Lib.hid hmw
      clear hops hop hold hSa hSb hdj hmw hlt
      go_upto_if 45 with (fail)
      go_cut [9] (fun v wx => v = .bool true ∧ Hid (Two w ga ha gb hb wx))
      case first =>
        by_cases h4 : (j : Int) % 4 = 3
        · go_wp2_with (fail)
          refine (does_any w.heap.size gb hb sb vb xb Lb k a b d bb sd wr HSb.out HMw.out.size HOld.out hsd ha1 ha2 hb1 hb2).mono ?_
          rintro e w5 ⟨rfl, hk5⟩
          have HT5 := Lib.hid (two_b HSa.out HSb.out HDj.out HMw.out hk5)
          clear hk5
          go_wp2
          go_meet
          case rel => exact ⟨rfl, HT5⟩
        · have h4' : ((j : Int) % 4 == 3) = false := by simpa using h4
          go_wp2_with (fail)
          refine (does_any w.heap.size ga ha sa va xa La k a b d bb sd wr HSa.out HMw.out.size HOld.out hsd ha1 ha2 hb1 hb2).mono ?_
          rintro e w5 ⟨rfl, hk5⟩
          have HT5 := Lib.hid (two_a HSa.out HSb.out HDj.out HMw.out hk5)
          clear hk5
          go_wp2
          go_meet
          case rel => exact ⟨rfl, HT5⟩
      case rest =>
        obtain ⟨rfl, hT5⟩ := hcut
        clear HSa HSb HDj HMw HOld c0 c1 c2 c3 c4 hsd ha1 ha2 hb1 hb2
        obtain ⟨va2, xa2, La2, sa2, vb2, xb2, Lb2, sb2, hSa, hSb, hdj, hmw⟩ := hT5.out
        obtain ⟨Aa, ca, hxa⟩ := hSa.r.slice
        obtain ⟨Ab, cb, hxb⟩ := hSb.r.slice
        subst hxa hxb
        obtain ⟨ga0, _, _, _⟩ := hSa.r.cells
        obtain ⟨gb0, _, _, _⟩ := hSb.r.cells
        have HSa := Lib.hid hSa
        have HSb := Lib.hid hSb
        clear hSa hSb hdj hmw
        go_wp2
        go_quiet ((first
          | (go_at_call_of 10 (Value.pointer (some ⟨ga, 0, none⟩)); exact quiet_eq (len_any w.heap.size ga sa2 va2 La2 _ (HSa.out.n.new ((Mod.refl (fun _ => False) wc).drewN _) (fun _ h => h.elim))))
          | (go_at_call_of 10 (Value.pointer (some ⟨gb, 0, none⟩)); exact quiet_eq (len_any w.heap.size gb sb2 vb2 Lb2 _ (HSb.out.n.new ((Mod.refl (fun _ => False) wc).drewN _) (fun _ h => h.elim))))))
        have HM0 : Hid (Mod (fun _ => False) wc (wc.drewN nq)) := Lib.hid ((Mod.refl _ wc).drewN nq)
        have hform : La2.length = 0 ∨ ∃ r, Aa = some ⟨r, 0, none⟩ := by
          rcases own_cases HSa.out.r.own with ⟨_, h, _⟩ | ⟨r, _, _, hv, _⟩
          · exact .inl h
          · injection hv with e1 _ _
            exact .inr ⟨r, e1⟩
        have HF := Lib.hid hform
        have hfew := HSa.out.r.few
        clear hform
        go_wp2
        go_loopw [10] (fun i wi => ∃ m : Nat, i = .int .i64 m ∧ m ≤ La2.length ∧ Hid (Mod (fun _ => False) wc wi)) (fun i _ => La2.length - (intOf i).toNat)
        case atStart => exact ⟨0, rfl, by omega, HM0⟩
        case round =>
          obtain ⟨m, rfl, hm, hMi⟩ := hrel
          by_cases hltm : m < La2.length
          · rcases HF.out with h | ⟨r, rfl⟩
            · omega
            obtain ⟨_, hnc, hcm2, _, hrow, _⟩ := row_at HSa.out.r.own
            unfold maxLen at hcm2
            have d0 : wr.cell? ⟨ha, 0, none⟩ = some (.slice (some ⟨r, 0, none⟩) La2.length ca) := cell_mod hMi.out ga0 (fun h => h)
            have hok : hasOk La2 (m : Int) = true := by unfold hasOk; rw [decide_eq_true]; omega
            have hrl : rl La2 (m : Int) = La2[m]'hltm := by unfold rl; rw [if_pos hok]; simp [hltm]
            have hcells := rcells_get La2 m hltm
            rw [← hrl] at hcells
            have Hok := Lib.hid hok
            have Hcells := Lib.hid hcells
            have Hrow := Lib.hid hrow
            clear hok hrl hcells hrow
            go_wp2_with (fail)
            refine (look_any w.heap.size ga sa2 va2 La2 m wr (HSa.out.n.new hMi.out (fun _ h => h.elim)) (fun l hl => (HSa.out.good l hl).1)).mono ?_
            intro e w3 hk
            obtain ⟨v2, rfl, hby, hm3⟩ := looked_t hk
            rw [Hok.out]
            have hM3 : Mod (fun _ => False) wc w3 := hMi.out.trans hm3 (fun _ h => h.elim)
            have x0 : w3.cell? ⟨ha, 0, none⟩ = some (.slice (some ⟨r, 0, none⟩) La2.length ca) := cell_mod hM3 ga0 (fun h => h)
            have x1 : w3.cell? ⟨r, m * 3, none⟩ = some (.int .i64 (rl La2 (m : Int)).f) := cell_mod hM3 (Hrow.out _ _ Hcells.out.1) (fun h => h)
            have x2 : w3.cell? ⟨r, m * 3 + 1, none⟩ = some (.int .i64 (rl La2 (m : Int)).t) := cell_mod hM3 (Hrow.out _ _ Hcells.out.2.1) (fun h => h)
            have x3 : w3.cell? ⟨r, m * 3 + 2, none⟩ = some (.string ⟨(rl La2 (m : Int)).b.toArray⟩) := cell_mod hM3 (Hrow.out _ _ Hcells.out.2.2) (fun h => h)
            have ht := fun n => rd_text (hby.rd.mod ((Mod.refl (fun _ => False) w3).drewN n) (fun _ _ h => h))
            have hlm : (rl La2 (m : Int)).b.length ≤ 1000000 := by
              unfold rl
              split
              · rcases hq : La2[(m : Int).toNat]? with _ | z
                · simp
                · exact (HSa.out.good z (List.mem_of_getElem? hq)).1
              · simp
            clear Hcells Hok
            generalize rl La2 (m : Int) = l at *
            have Hby := Lib.hid hby
            have HM3 := Lib.hid hM3
            have Hm3 := Lib.hid hm3
            obtain ⟨A2, k2, rfl⟩ := hby.form
            clear hk hby hM3 hm3
            go_wp2
            go_quiet (fail)
            have HB0 : Hid (Out8 (.slice A2 l.b.length k2) A2 l.b.length w3 (w3.drewN nq)) := Lib.hid (by
              refine ⟨(Mod.refl _ w3).drewN nq, ?_⟩
              rcases own_cases Hby.out with ⟨h, h', _⟩ | ⟨gl, cap, cur, hv, hg, hB', hn', hc', hs', hx'⟩
              · exact .inl h'
              · injection hv with e1 e2 e3
                subst e1
                exact .inr ⟨gl, rfl, (Mod.refl _ w3).drewN nq, cur, hB', by omega⟩)
            clear x0 x1 x2 x3 ht d0
            go_wp2
            go_loopw [15] (fun i wi => ∃ p : Nat, i = .int .i64 p ∧ p ≤ l.b.length ∧ Hid (Out8 (.slice A2 l.b.length k2) A2 l.b.length w3 wi)) (fun i _ => l.b.length - (intOf i).toNat)
            case atStart => exact ⟨0, rfl, by omega, HB0⟩
            case round =>
              obtain ⟨p, rfl, hp, hO⟩ := hrel
              by_cases hltp : p < l.b.length
              · obtain ⟨hO1, hO2⟩ := hO.out
                rcases hO2 with h | ⟨gl, rfl, hLK⟩
                · omega
                obtain ⟨⟨y, hy⟩, hf, hn⟩ := hLK.at_ p hltp (.int .u8 8)
                have Hn : Hid (Out8 (.slice (some ⟨gl, 0, none⟩) l.b.length k2) (some ⟨gl, 0, none⟩) l.b.length w3 (wr.setCell ⟨gl, p, none⟩ (.int .u8 8))) := Lib.hid ⟨hO1.setCell (p := ⟨gl, p, none⟩) (.inl rfl) _, .inr ⟨gl, rfl, hn⟩⟩
                clear hn hO1 hLK hO
                go_wp2
                go_roundw
                case rel => exact ⟨p + 1, by go_num, by omega, Hn⟩
                case measure => simp [intOf]; omega
              · obtain rfl : l.b.length = p := by omega
                have HM4 : Hid (Mod (fun _ => False) wc wr) := Lib.hid (HM3.out.trans hO.out.1 (fun i hi => .inr (by have := (own_lt Hby.out hi).1; have := hMi.out.size; omega)))
                clear hO
                go_wp2
                go_roundw
                case rel => exact ⟨m + 1, by go_num, by omega, HM4⟩
                case measure => simp [intOf]; omega
          · obtain rfl : La2.length = m := by omega
            have d0 : wr.cell? ⟨ha, 0, none⟩ = some (.slice Aa La2.length ca) := cell_mod hMi.out ga0 (fun h => h)
            have HT9 := Lib.hid (hT5.out.new hMi.out)
            clear hMi
            go_wp2
            go_roundw
            case rel => exact ⟨j + 1, by go_num, by omega, by omega, HT9⟩
            case measure => simp [intOf]; omega
    · have hx : ¬ j < len0 ∨ (j < len0 ∧ ¬ j < 300) := by omega
      obtain ⟨_, _, _, _, _, _, _, _, _, _, _, hmw⟩ := hT.out
      have hfin : Below w.heap.size w wr := hmw.below_of (Nat.le_refl _) (fun _ h => h.elim)
      have Hfin := Lib.hid hfin
      clear hfin hmw hlt
      rcases hx with h1 | ⟨h1, h2⟩
      all_goals
        go_wp2
        go_ret
        exact ⟨rfl, Hfin.out⟩
end Go.Proofs.Ytjhlabpnjkepbaa
