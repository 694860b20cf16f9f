/-
  A disk in memory; how many bytes all files have.
-/
import Derived.Test.YtoceddcppbddnaaDb
import Derived.Test.YtoceddcppbddnaaCalmTail
namespace Go.Proofs.Ytoceddcppbddnaa
open Go.RowKit Mem Go.Maps
set_option linter.unusedVariables false
set_option linter.unusedSimpArgs false

structure FileAt (w : World) (f : Fr) : Prop where
  blk : Blk w f.g #[f.v, .int .i64 (f.n : Int)] 60
  fb : Fb w f.v f.b
  lasts : f.n ≤ f.b.length
  len : f.b.length ≤ 1099511627776
  name : f.name.length ≤ 32
theorem FileAt.mod {w w' : World} {f : Fr} {S : Nat → Prop} (h : FileAt w f) (hm : Mod S w w') (hg : ¬ S f.g) (hv : ∀ x, f.v.ownBlock = some x → ¬ S x) : FileAt w' f :=
  ⟨h.blk.mod hm hg, h.fb.mod hm hv, h.lasts, h.len, h.name⟩
structure Dk where
  room : Int
  L : List Fr
  off : Bool
  fuse : Option (Nat × Int × Nat)
  falls : Int
  mb : Nat
def own (f : Fr) : List Nat := f.v.ownBlock.toList
def Apt (f f' : Fr) : Prop := f.g ≠ f'.g ∧ ∀ x, f.v.ownBlock = some x → f'.v.ownBlock ≠ some x
/-- The blocks of a disk. -/
def Foot (d : Nat) (X : Dk) (s : Nat) : Prop := s = d ∨ s = X.mb ∨ (∃ a k, X.fuse = some (s, a, k)) ∨ ∃ f ∈ X.L, s = f.g ∨ f.v.ownBlock = some s
def cellsOf (X : Dk) : Array Value := #[.int .i64 X.room, .map (some X.mb), .bool X.off, .pointer (X.fuse.map fun f => ⟨f.1, 0, none⟩), .int .i64 X.falls]
structure At (w : World) (d : Nat) (X : Dk) : Prop where
  disk : Blk w d (cellsOf X) 56
  map : PM w X.mb X.L
  fuse : ∀ g a k, X.fuse = some (g, a, k) → Blk w g #[.int .i64 a, .int .u64 (k : Int)] 67 ∧ 0 ≤ a ∧ a ≤ 9223372036854775807 ∧ k < 18446744073709551616
  files : ∀ f ∈ X.L, FileAt w f
  apart : X.L.Pairwise Apt
  room : 0 ≤ X.room ∧ X.room ≤ 9223372036854775807
  falls : 0 ≤ X.falls ∧ X.falls ≤ 1000000
  many : X.L.length ≤ 1000
theorem At.mod {w w' : World} {d : Nat} {X : Dk} {S : Nat → Prop} (h : At w d X) (hm : Mod S w w') (hS : ∀ s, Foot d X s → ¬ S s) : At w' d X :=
  ⟨h.disk.mod hm (hS d (.inl rfl)), h.map.mod hm (hS _ (.inr (.inl rfl))), fun g a k hf => ⟨(h.fuse g a k hf).1.mod hm (hS g (.inr (.inr (.inl ⟨a, k, hf⟩)))), (h.fuse g a k hf).2⟩,
    fun f hf => (h.files f hf).mod hm (hS _ (.inr (.inr (.inr ⟨f, hf, .inl rfl⟩)))) (fun x hx => hS x (.inr (.inr (.inr ⟨f, hf, .inr hx⟩)))), h.apart, h.room, h.falls, h.many⟩
theorem At.lt {w : World} {d : Nat} {X : Dk} (h : At w d X) {s : Nat} (hs : Foot d X s) : s < w.heap.size := by
  rcases hs with rfl | rfl | ⟨a, k, hf⟩ | ⟨f, hf, rfl | hx⟩
  · exact h.disk.lt
  · exact h.map.lt
  · exact (h.fuse _ _ _ hf).1.lt
  · exact (h.files f hf).blk.lt
  · exact (h.files f hf).fb.lt hx
/-- The world may have turned beside the disk. -/
theorem At.still {w w' : World} {d : Nat} {X : Dk} (h : At w d X) (hm : Mod (fun _ => False) w w') : At w' d X := h.mod hm (fun _ _ h => h)
theorem At.ne_map {w : World} {d : Nat} {X : Dk} (h : At w d X) {s : Nat} {cs : Array Value} {T : TypeId} (hb : Blk w s cs T) : X.mb ≠ s := h.map.ne hb
/-- Cells of the disk. -/
theorem At.cell {w : World} {d : Nat} {X : Dk} (h : At w d X) (i : Nat) : w.cell? ⟨d, i, none⟩ = (cellsOf X)[i]? := Blk.cell h.disk i
theorem At.free {w : World} {d : Nat} {X : Dk} (h : At w d X) (i : Nat) : w.frozen? ⟨d, i, none⟩ = false := Blk.frozen h.disk i
def usedN (off : Bool) (n : Nat) : Nat := if off then 0 else n
/-- All files' bytes. -/
def tot (L : List Fr) : Nat := (L.map fun f => f.b.length).sum
def part (left : Lit → Bool) (L : List Fr) : Nat := (L.map fun f => if left (.string f.name) then 0 else f.b.length).sum
theorem part_none {left : Lit → Bool} {L : List Fr} (h : ∀ k, left k = false) : part left L = tot L := by
  unfold part tot
  congr 1
  apply List.map_congr_left
  intro f _
  rw [h]; rfl
theorem part_all {left : Lit → Bool} {L : List Fr} (h : ∀ f ∈ L, left (.string f.name) = true) : part left L = 0 := by
  unfold part
  induction L with
  | nil => rfl
  | cons f L ih =>
    rw [List.map_cons, List.sum_cons, ih (fun g hg => h g (List.mem_cons_of_mem _ hg)), h f (List.mem_cons_self ..)]
    rfl
theorem part_step {left : Lit → Bool} {f : Fr} : ∀ {L : List Fr}, L.Pairwise (fun f f' => f.name ≠ f'.name) → f ∈ L → left (.string f.name) = true → part (fun x => left x && !x.sameKey (.string f.name)) L = part left L + f.b.length
  | [], _, h, _ => by cases h
  | x :: L, hp, h, hl => by
    have hp' := List.pairwise_cons.1 hp
    unfold part
    rw [List.map_cons, List.sum_cons, List.map_cons, List.sum_cons]
    have e : ∀ y : Fr, (Lit.string y.name).sameKey (.string f.name) = (y.name == f.name) := fun y => rfl
    by_cases hx : x.name = f.name
    · have hxf : x = f := by
        rcases List.mem_cons.1 h with rfl | hm
        · rfl
        · exact absurd hx (hp'.1 f hm)
      subst hxf
      have e2 : (L.map fun y => if (left (.string y.name) && !(Lit.string y.name).sameKey (.string x.name)) then 0 else y.b.length) = L.map fun y => if left (.string y.name) then 0 else y.b.length := by
        apply List.map_congr_left
        intro y hy
        have : (y.name == x.name) = false := by rw [beq_eq_false_iff_ne]; exact fun h => hp'.1 y hy h.symm
        rw [e, this, Bool.not_false, Bool.and_true]
      rw [e2]
      show (if (left (.string x.name) && !((Lit.string x.name).sameKey (.string x.name))) = true then 0 else x.b.length) + _ = _
      rw [e, hl]
      simp
      omega
    · have hm : f ∈ L := by
        rcases List.mem_cons.1 h with rfl | hm
        · exact absurd rfl hx
        · exact hm
      have ih := part_step (left := left) hp'.2 hm hl
      unfold part at ih
      have : (x.name == f.name) = false := by rw [beq_eq_false_iff_ne]; exact hx
      rw [ih]
      show (if (left (.string x.name) && !((Lit.string x.name).sameKey (.string f.name))) = true then 0 else x.b.length) + _ = _
      rw [e, this, Bool.not_false, Bool.and_true]
      omega
theorem apart_names {w : World} {mb : Nat} {L : List Fr} (h : PM w mb L) : L.Pairwise (fun f f' => f.name ≠ f'.name) :=
  h.canon.imp (fun {a b} h e => by rw [e, Go.WideAt.bytes_irrefl] at h; cases h)
theorem tot_le {w : World} {L : List Fr} (h : ∀ f ∈ L, FileAt w f) : tot L ≤ L.length * 1099511627776 := by
  induction L with
  | nil => simp [tot]
  | cons f L ih =>
    have := ih (fun g hg => h g (List.mem_cons_of_mem _ hg))
    have h2 := (h f (List.mem_cons_self ..)).len
    unfold tot at this ⊢
    rw [List.map_cons, List.sum_cons, List.length_cons]
    omega
theorem part_le (left : Lit → Bool) (L : List Fr) : part left L ≤ tot L := by
  unfold part tot
  induction L with
  | nil => simp
  | cons f L ih =>
    simp only [List.map_cons, List.sum_cons]
    split <;> omega
/-- Which file a step of the range hands out. -/
theorem step_file {L : List Fr} {key v : Value} {kl : Lit} {y : Dt × List MemPlace} (hkey : keyOf Try.prog 9 key = some kl) (hv : ptrR v = some y) (hat : ∀ zd, (md L).atKey kl zd = y.1) :
    ∃ f ∈ L, key = .string (sv f.name) ∧ kl = .string f.name ∧ v = .pointer (some ⟨f.g, 0, none⟩) := by
  obtain ⟨x, ex, rfl, _⟩ := Maps.keyOf_str Try.underlying9 hkey
  cases hf : fndF L x with
  | none =>
    have h1 := hat (.lit (.int .i64 5))
    have h2 := hat (.lit (.int .i64 6))
    rw [md_at, hf] at h1 h2
    rw [← h2] at h1
    simp at h1
  | some f =>
    have h1 := hat (.lit (.int .i64 5))
    rw [md_at, hf] at h1
    obtain ⟨hm, hn⟩ := fnd_some hf
    have hv' : ptrR v = some (.lit (.int .i64 (f.g : Int)), y.2) := by rw [hv]; exact congrArg some (Prod.ext h1.symm rfl)
    refine ⟨f, hm, by rw [ex, hn]; rfl, by rw [hn], ?_⟩
    rcases ptrR_inv hv' with ⟨hg, _⟩ | ⟨g, hg, rfl⟩
    · omega
    · have : g = f.g := by omega
      rw [this]
set_option maxRecDepth 100000 in
set_option maxHeartbeats 1600000 in
theorem used_any (w : World) (d : Nat) (X : Dk) (h : At w d X) : Calls Try.prog 18 #[.pointer (some ⟨d, 0, none⟩)] w fun e w' => e = .returned (.int .i64 (usedN X.off (tot X.L) : Nat)) ∧ Mod (fun _ => False) w w' := by
  have H := Lib.hid h
  have hnames := Lib.hid (apart_names h.map)
  have htot := tot_le h.files
  have hmany := h.many
  have hb : tot X.L ≤ 1099511627776000 := by omega
  obtain ⟨n, hn, hmp⟩ := h.map
  obtain ⟨w1, hrun, hrg, hgr, hsz⟩ := hmp.range law9 Try.underlying53
  have hm1 : Mod (fun _ => False) w w1 := (Mod.refl _ w).grown hgr (fun k hk => by cases hk)
  have HM1 := Lib.hid hm1
  have HR1 := Lib.hid hrg
  have hc0 := h.cell 1
  have hc0' : w.cell? ⟨d, 1, none⟩ = some (.map (some X.mb)) := hc0
  obtain ⟨r, hr⟩ : ∃ r, w.heap.size = r := ⟨_, rfl⟩
  rw [hr] at hrun HR1
  have HRr : Hid (w.heap.size ≤ r) := Lib.hid (by omega)
  have HS0 : Hid (part (has (md X.L)) X.L = 0) := Lib.hid (part_all (fun f hf => by
    rw [md_has]
    cases hq : fndF X.L f.name with
    | none => exact absurd rfl (fnd_none hq f hf)
    | some _ => rfl))
  clear h hmp hgr hsz hm1 hrg hc0 hr htot hmany
  go_enter Try.func18, Try.ntmps18
  go_wp2
  go_loopw [3] (fun v wr => ∃ (left : Lit → Bool) (cnt s : Nat), v = .int .i64 s ∧ s ≤ 1099511627776000 ∧ Hid (wr.ranges Try.prog 9 ptrR X.mb r n (md X.L) left cnt) ∧ Hid (Mod (fun _ => False) w wr) ∧ Hid (s = usedN X.off (part left X.L))) (fun _ wr => wr.rangeLeft X.mb r)
  case atStart => exact ⟨_, _, 0, rfl, by omega, HR1, HM1, Lib.hid (by rw [HS0.out]; unfold usedN; split <;> rfl)⟩
  case round =>
    obtain ⟨left, cnt, s, rfl, hs, hrg, hm, hsum⟩ := hrel
    have hmeas := hrg.out.left_eq
    rcases hrg.out.next law9 0 with ⟨h0, hl0, hnx⟩ | ⟨key, v, kl, y, w2, cnt2, hkey, hlk, hv, hat, hnx, hrg2, hlt, hg2, hs2, hen⟩
    · have HR : Hid (s = usedN X.off (tot X.L)) := Lib.hid (by rw [hsum.out, part_none hl0])
      clear hrg hsum hl0 h0 hmeas
      go_wp2
      go_ret
      exact ⟨ret_int (by rw [HR.out]), hm.out⟩
    · obtain ⟨f, hf, rfl, rfl, rfl⟩ := step_file hkey hv hat
      have hm2 : Mod (fun _ => False) w w2 := hm.out.grown hg2 (fun k hk => .inr (by injection hk with hk; subst hk; exact HRr.out))
      have HA2 := H.out.still hm2
      have HF := HA2.files f hf
      have hc2 : w2.cell? ⟨d, 2, none⟩ = some (.bool X.off) := HA2.cell 2
      have hcf : w2.cell? ⟨f.g, 0, none⟩ = some f.v := by rw [HF.blk.cell]; rfl
      obtain ⟨fa, fc, hfv, _, _⟩ := HF.fb.shape
      rw [hfv] at hcf
      have hfl := HF.len
      have HM2 := Lib.hid hm2
      have HRG2 := Lib.hid hrg2
      have hmeas2 := hrg2.left_eq
      have hps : part (fun x => left x && !x.sameKey (.string f.name)) X.L = part left X.L + f.b.length := part_step hnames.out hf hlk
      have hple := part_le (fun x => left x && !x.sameKey (.string f.name)) X.L
      have hss := hsum.out
      cases hoff : X.off with
      | true =>
        rw [hoff] at hc2 hss
        have HS2 : Hid (s = usedN true (part (fun x => left x && !x.sameKey (.string f.name)) X.L)) := Lib.hid hss
        have hlt2 : w2.rangeLeft X.mb r < wr.rangeLeft X.mb r := by rw [hmeas, hmeas2]; exact hlt
        clear hrg hsum hm2 HA2 HF hcf hfv hrg2 hmeas hmeas2 hlk hkey hv hat hlt hg2 hs2 hps hple hss hm hoff
        go_wp2
        go_roundw
        case rel => exact ⟨_, _, s, rfl, hs, HRG2, HM2, HS2⟩
        case measure => exact hlt2
      | false =>
        rw [hoff] at hc2 hss
        have hss' : s = part left X.L := hss
        have HS2 : Hid (s + f.b.length = usedN false (part (fun x => left x && !x.sameKey (.string f.name)) X.L)) := Lib.hid (by rw [hss', hps]; rfl)
        have hlt2 : w2.rangeLeft X.mb r < wr.rangeLeft X.mb r := by rw [hmeas, hmeas2]; exact hlt
        have hs3 : s + f.b.length ≤ 1099511627776000 := by omega
        clear hrg hsum hm2 HA2 HF hfv hrg2 hmeas hmeas2 hlk hkey hv hat hlt hg2 hs2 hps hple hss hm hoff hss'
        go_wp2
        go_roundw
        case rel => exact ⟨_, _, s + f.b.length, by go_num, hs3, HRG2, HM2, HS2⟩
        case measure => exact hlt2
end Go.Proofs.Ytoceddcppbddnaa
