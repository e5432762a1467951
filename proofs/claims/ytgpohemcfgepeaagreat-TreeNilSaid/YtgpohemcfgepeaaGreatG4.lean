/- a part. -/
import Derived.Test.YtgpohemcfgepeaaGreatG3
namespace Go.Proofs.YtgpohemcfgepeaaGreat
open Go.RowKit Go.MapKept
structure PageD where
  kind : Int
  pairs : List PairD
  keys : List ByteArray
  kids : List Int
  pages : List Int
  next : Int
  epoch : Int
  root : Int
  depth : Int
  count : Int
  high : Int
def PageD.small (p : PageD) : Prop := p.pairs.length ≤ 10000 ∧ p.keys.length ≤ 10000 ∧ p.kids.length ≤ 10000 ∧ p.pages.length ≤ 10000
def pageCells (p : PageD) (pv kv dv gv : Value) : List Value :=
  [.int .i64 p.kind, pv, kv, dv, gv, .int .i64 p.next, .int .u64 p.epoch, .int .i64 p.root, .int .i64 p.depth, .int .i64 p.count, .int .i64 p.high]
structure PageIn (S : List Nat) (w : World) (p : PageD) (pv kv dv gv : Value) : Prop where
  pairs : Prs S w pv p.pairs
  keys : Txts S w kv p.keys
  kids : Ints S w dv p.kids
  pages : Ints S w gv p.pages
theorem PageIn.kept {S : List Nat} {w w' : World} {p : PageD} {pv kv dv gv : Value} (h : PageIn S w p pv kv dv gv) (hf : Fr S w w') : PageIn S w' p pv kv dv gv :=
  ⟨h.pairs.kept hf, h.keys.kept hf, h.kids.kept hf, h.pages.kept hf⟩
theorem PageIn.mono {S S' : List Nat} {w : World} {p : PageD} {pv kv dv gv : Value} (h : PageIn S w p pv kv dv gv) (hs : ∀ x, x ∈ S' → x ∈ S) : PageIn S' w p pv kv dv gv :=
  ⟨h.pairs.mono hs, h.keys.mono hs, h.kids.mono hs, h.pages.mono hs⟩
def PageAt (S : List Nat) (w : World) (v : Value) (p : PageD) : Prop := ∃ pv kv dv gv, v = .agg (pageCells p pv kv dv gv).toArray ∧ PageIn S w p pv kv dv gv
theorem PageAt.kept {S : List Nat} {w w' : World} {v : Value} {p : PageD} (h : PageAt S w v p) (hf : Fr S w w') : PageAt S w' v p := by
  obtain ⟨pv, kv, dv, gv, rfl, hi⟩ := h
  exact ⟨pv, kv, dv, gv, rfl, hi.kept hf⟩
theorem PageAt.mono {S S' : List Nat} {w : World} {v : Value} {p : PageD} (h : PageAt S w v p) (hs : ∀ x, x ∈ S' → x ∈ S) : PageAt S' w v p := by
  obtain ⟨pv, kv, dv, gv, rfl, hi⟩ := h
  exact ⟨pv, kv, dv, gv, rfl, hi.mono hs⟩
def noAdjB (l : List Int) : Bool := (List.range (l.length - 1)).all fun i => !decide (l.getD (i + 1) 0 = l.getD i 0)
theorem noAdjB_iff (l : List Int) : noAdjB l = true ↔ NoAdj l := by
  unfold noAdjB NoAdj
  rw [List.all_eq_true]
  constructor
  · intro h i hi; have := h i (List.mem_range.2 (by omega)); simpa using this
  · intro h i hi; have := h i (by have := List.mem_range.1 hi; omega); simpa using this
def PageD.heads (p : PageD) : Bool := (p.epoch != 0) || (bits .or .i64 (bits .or .i64 (bits .or .i64 p.root p.depth) p.count) p.high != 0)
def PageD.hasPairs (p : PageD) : Bool := decide (0 < p.pairs.length)
def PageD.hasKids (p : PageD) : Bool := decide (0 < (p.keys.length : Int) + (p.kids.length : Int))
def PageD.hasPages (p : PageD) : Bool := decide (0 < p.pages.length)
def errB (b : Bool) : Int := if b then 0 else 50
def PageD.fit (p : PageD) : Bool := decide (1 ≤ p.keys.length) && decide (p.keys.length ≤ 12) && decide (p.kids.length = p.keys.length + 1)
def PageD.noneB (p : PageD) : Bool := (p.root == 0) && (p.depth == 0) && (p.count == 0)
def PageD.someB (p : PageD) : Bool := placeB p.root && decide (1 ≤ p.depth) && decide (p.depth ≤ 20) && decide (1 ≤ p.count) && decide (p.count ≤ 2147483647)
def nextB (n : Int) : Bool := decide (n = 0) || placeB n
def PageD.check (p : PageD) : Bool :=
  if p.kind = 1 then leafP p.pairs && !p.hasKids && !p.hasPages && !p.heads && decide (p.next = 0)
  else if p.kind = 2 then p.fit && riseP p.keys && !(p.kids.any fun n => !placeB n) && !p.hasPairs && !p.hasPages && !p.heads && decide (p.next = 0)
  else if p.kind = 3 then (sortedB p.pages && noAdjB p.pages) && decide (p.pages.length ≤ 200) && !(p.pages.any fun n => !placeB n) && nextB p.next && !p.hasPairs && !p.hasKids && !p.heads
  else if p.kind = 4 then (p.noneB || p.someB) && decide (2 ≤ p.high) && decide (p.high ≤ 4096) && nextB p.next && !p.hasPairs && !p.hasKids && !p.hasPages
  else false
structure CkAt (w : World) (p : PageD) (pv kv dv gv : Value) (wr : World) : Prop where
  fr : Fr [] w wr
  blk : wr.heap[w.heap.size]? = some (.cells (pageCells p pv kv dv gv).toArray 90 (0, 0))
theorem CkAt.cells {w wr : World} {p : PageD} {pv kv dv gv : Value} (h : CkAt w p pv kv dv gv wr) (i : Nat) : wr.cell? ⟨w.heap.size, i, none⟩ = (pageCells p pv kv dv gv)[i]? := by
  rw [blk_cell h.blk]; simp
theorem CkAt.next {w wr wx : World} {p : PageD} {pv kv dv gv : Value} (h : CkAt w p pv kv dv gv wr) (hf : Fr [] wr wx) : CkAt w p pv kv dv gv wx := ⟨h.fr.trans hf, hf.heap h.blk (by simp)⟩
set_option maxRecDepth 100000 in
set_option maxHeartbeats 8000000 in
theorem check_raw {p : PageD} {b : Bool} {pa ka da ga : Option Addr} {pc kc dc gc : Nat} (w : World)
    (h : PageIn [] w p (.slice pa p.pairs.length pc) (.slice ka p.keys.length kc) (.slice da p.kids.length dc) (.slice ga p.pages.length gc)) (hs : p.small) (hb : p.check = b) :
    Calls Tryz.prog 94 #[.agg (pageCells p (.slice pa p.pairs.length pc) (.slice ka p.keys.length kc) (.slice da p.kids.length dc) (.slice ga p.pages.length gc)).toArray] w fun e w' => e = .returned (.int .i64 (errB b)) ∧ Fr [] w w' := by
  have HPB := Lib.hid hb
  have HIN := Lib.hid h
  have HSM := Lib.hid hs
  have q1 : (p.keys.length : Int) ≤ 10000 := by have := hs.2.1; omega
  have q2 : (p.kids.length : Int) ≤ 10000 := by have := hs.2.2.1; omega
  unfold pageCells
  clear h hs hb
  go_enter Tryz.func94, Tryz.ntmps94
  go_upto_region 2 with fail
  go_cut [4, 5, 6] from 13 to 28 (fun x y z wr => x = .bool p.hasPairs ∧ y = .bool p.hasKids ∧ z = .bool p.hasPages ∧ CkAt w p (.slice pa p.pairs.length pc) (.slice ka p.keys.length kc) (.slice da p.kids.length dc) (.slice ga p.pages.length gc) wr)
  case first =>
    go_quiet (fail)
    go_wp2_with fail
    go_meet
    exact ⟨rfl, rfl, rfl, ⟨(Fr.alloc1 w _).trans (frN _ _), (frN _ _).heap (blk_new w _) (by simp)⟩⟩
  case rest =>
    obtain ⟨rfl, rfl, rfl, hck⟩ := hcut
    have HCK := Lib.hid hck
    have c6 := hck.cells 6
    have c7 := hck.cells 7
    have c8 := hck.cells 8
    have c9 := hck.cells 9
    have c10 := hck.cells 10
    simp only [pageCells, List.getElem?_cons_zero, List.getElem?_cons_succ] at c6 c7 c8 c9 c10
    clear hck q1 q2
    go_upto_region 3 with fail
    go_cut [7] from 29 to 45 (fun x wr => x = .bool p.heads ∧ CkAt w p (.slice pa p.pairs.length pc) (.slice ka p.keys.length kc) (.slice da p.kids.length dc) (.slice ga p.pages.length gc) wr)
    case first =>
      by_cases h0 : p.epoch = 0
      · have HH0 : Hid (p.heads = (bits .or .i64 (bits .or .i64 (bits .or .i64 p.root p.depth) p.count) p.high != 0)) := Lib.hid (by unfold PageD.heads; simp [h0])
        go_wp2_with fail
        go_meet
        exact ⟨by rw [HH0.out], HCK.out⟩
      · have HH0 : Hid (p.heads = true) := Lib.hid (by unfold PageD.heads; simp [h0])
        go_wp2_with fail
        go_meet
        exact ⟨by rw [HH0.out], HCK.out⟩
    case rest =>
      obtain ⟨rfl, hck2⟩ := hcut
      have hin := HIN.out.kept hck2.fr
      have c0 := hck2.cells 0
      have c1 := hck2.cells 1
      have c2 := hck2.cells 2
      have c3 := hck2.cells 3
      have c4 := hck2.cells 4
      have c5 := hck2.cells 5
      have c7 := hck2.cells 7
      have c8 := hck2.cells 8
      have c9 := hck2.cells 9
      have c10 := hck2.cells 10
      simp only [pageCells, List.getElem?_cons_zero, List.getElem?_cons_succ] at c0 c1 c2 c3 c4 c5 c7 c8 c9 c10
      have HCK2 := Lib.hid hck2
      have HI := Lib.hid hin
      clear hck2 hin
      by_cases k1 : p.kind = 1
      · obtain ⟨bl, hbl⟩ : ∃ bl, leafP p.pairs = bl := ⟨_, rfl⟩
        have HBV : Hid (b = (bl && !p.hasKids && !p.hasPages && !p.heads && (p.next == 0))) := Lib.hid (by rw [← HPB.out]; unfold PageD.check; rw [if_pos k1, hbl]; rfl)
        have HLF := Lib.hid (leaf_k wc HI.out.pairs (by have := HSM.out.1; omega) hbl)
        clear hbl
        generalize p.hasKids = bk at *
        generalize p.hasPages = bg at *
        generalize p.hasPairs = br at *
        generalize p.heads = bh at *
        go_wp2_with fail
        refine HLF.out.mono ?_
        rintro e w1 ⟨rfl, hf⟩
        have c5' := hf.cellSome c5 (by simp)
        have HF := Lib.hid (HCK2.out.fr.trans hf)
        clear hf
        cases hnx : (p.next == 0)
        all_goals
          go_wp2
          all_goals
            go_ret
            first
              | exact ⟨by rw [show b = true by rw [HBV.out]; simp [*]]; rfl, HF.out⟩
              | exact ⟨by rw [show b = false by rw [HBV.out]; simp [*]]; rfl, HF.out⟩
      · by_cases k2 : p.kind = 2
        · obtain ⟨bl, hbl⟩ : ∃ bl, riseP p.keys = bl := ⟨_, rfl⟩
          obtain ⟨bn, hbn⟩ : ∃ bn, (p.kids.any fun n => !placeB n) = bn := ⟨_, rfl⟩
          have HBV : Hid (b = (p.fit && bl && !bn && !p.hasPairs && !p.hasPages && !p.heads && (p.next == 0))) := Lib.hid (by rw [← HPB.out]; unfold PageD.check; rw [if_neg k1, if_pos k2, hbl, hbn]; rfl)
          have HRI := Lib.hid (rise_k wc HI.out.keys (by have := HSM.out.2.1; omega) hbl)
          have HCF := Lib.hid (containsFn_k 125 #[] (fun n => !placeB n) wc HI.out.kids (by have := HSM.out.2.2.1; omega) enter_bad (fun n _ => bad_k n wc) hbn)
          have q1 : (p.keys.length : Int) ≤ 10000 := by have := HSM.out.2.1; omega
          have q2 : (p.kids.length : Int) ≤ 10000 := by have := HSM.out.2.2.1; omega
          have HF := Lib.hid HCK2.out.fr
          clear hbl hbn
          generalize p.hasKids = bk at *
          generalize p.hasPages = bg at *
          generalize p.hasPairs = br at *
          generalize p.heads = bh at *
          by_cases f1 : 1 ≤ p.keys.length
          · by_cases f2 : p.keys.length ≤ 12
            · by_cases f3 : p.kids.length = p.keys.length + 1
              · have HFIT : Hid (p.fit = true) := Lib.hid (by unfold PageD.fit; rw [decide_eq_true f1, decide_eq_true f2, decide_eq_true f3]; rfl)
                have g1 : (1 : Int) ≤ (p.keys.length : Int) := by omega
                have g2 : (p.keys.length : Int) ≤ 12 := by omega
                have g3 : ((p.kids.length : Int) == (p.keys.length : Int) + 1) = true := by simp; omega
                have HBV2 : Hid (b = (bl && !bn && !br && !bg && !bh && (p.next == 0))) := Lib.hid (by rw [HBV.out, HFIT.out]; rfl)
                clear f1 f2 f3
                cases hnx : (p.next == 0)
                all_goals
                  go_wp2_with (first
                    | (go_at_call 128; refine HRI.out.mono ?_; rintro e w1 ⟨rfl, rfl⟩)
                    | (go_at_call 78; refine HCF.out.mono ?_; rintro e w1 ⟨rfl, rfl⟩))
                  all_goals
                    go_ret
                    first
                      | exact ⟨by rw [show b = true by rw [HBV2.out]; simp [*]]; rfl, HF.out⟩
                      | exact ⟨by rw [show b = false by rw [HBV2.out]; simp [*]]; rfl, HF.out⟩
              · have HBF : Hid (b = false) := Lib.hid (by rw [HBV.out]; unfold PageD.fit; rw [decide_eq_false f3]; simp)
                have g1 : (1 : Int) ≤ (p.keys.length : Int) := by omega
                have g2 : (p.keys.length : Int) ≤ 12 := by omega
                have g3 : ((p.kids.length : Int) == (p.keys.length : Int) + 1) = false := by simp; omega
                clear f1 f2 f3
                go_wp2
                go_ret
                exact ⟨by rw [HBF.out]; rfl, HF.out⟩
            · have HBF : Hid (b = false) := Lib.hid (by rw [HBV.out]; unfold PageD.fit; rw [decide_eq_false f2]; simp)
              have g1 : (1 : Int) ≤ (p.keys.length : Int) := by omega
              have g2 : (12 : Int) < (p.keys.length : Int) := by omega
              clear f1 f2
              go_wp2
              go_ret
              exact ⟨by rw [HBF.out]; rfl, HF.out⟩
          · have HBF : Hid (b = false) := Lib.hid (by rw [HBV.out]; unfold PageD.fit; rw [decide_eq_false f1]; simp)
            have g1 : (p.keys.length : Int) < 1 := by omega
            clear f1
            go_wp2
            go_ret
            exact ⟨by rw [HBF.out]; rfl, HF.out⟩
        · by_cases k3 : p.kind = 3
          · obtain ⟨bs, hbs⟩ : ∃ bs, sortedB p.pages = bs := ⟨_, rfl⟩
            obtain ⟨bu, hbu⟩ : ∃ bu, noAdjB p.pages = bu := ⟨_, rfl⟩
            obtain ⟨bn, hbn⟩ : ∃ bn, (p.pages.any fun n => !placeB n) = bn := ⟨_, rfl⟩
            obtain ⟨bx, hbx⟩ : ∃ bx, placeB p.next = bx := ⟨_, rfl⟩
            have hgl : p.pages.length ≤ 1048576 := by have := HSM.out.2.2.2; omega
            have HBV : Hid (b = ((bs && bu) && decide (p.pages.length ≤ 200) && !bn && ((p.next == 0) || bx) && !p.hasPairs && !p.hasKids && !p.heads)) := Lib.hid (by rw [← HPB.out]; unfold PageD.check nextB; rw [if_neg k1, if_neg k2, if_pos k3, hbs, hbu, hbn, hbx]; rfl)
            have HGL := Lib.hid hgl
            have HBS := Lib.hid hbs
            have HBU := Lib.hid hbu
            have HBN := Lib.hid hbn
            have HBX := Lib.hid hbx
            have q3 : (p.pages.length : Int) ≤ 10000 := by have := HSM.out.2.2.2; omega
            clear hbs hbu hbn hbx hgl
            generalize p.hasKids = bk at *
            generalize p.hasPages = bg at *
            generalize p.hasPairs = br at *
            generalize p.heads = bh at *
            go_upto_region 12 with fail
            clear k1 k2 k3
            go_cut [10] from 124 to 137 (fun x wr => x = .bool (bs && bu) ∧ Fr [] wc wr)
            case first =>
              have HX0 := Lib.hid (HI.out.pages.kept (Fr.refl [] wc).drew)
              have HSO := Lib.hid (sorted_f _ HX0.out HGL.out HBS.out)
              cases bs with
              | false =>
                go_quiet ((go_at_call 129; exact Calls.quiet_of (sorted_i _ (HI.out.pages.kept (frN _ _)) HGL.out HBS.out)))
                go_wp2_with fail
                go_meet
                exact ⟨rfl, frN _ _⟩
              | true =>
                have HCL : Hid (∀ wq, Fr [] wc wq → Calls Tryz.prog 110 #[.slice ga p.pages.length gc] wq fun e w' => ∃ v', e = .returned v' ∧ w'.ownsRow wq.heap.size 3 1 v' p.pages.length (p.pages.map intV) ∧ Fr [] wq w') := Lib.hid (fun wq hq => clone_own wq (HI.out.pages.kept hq) HGL.out)
                cases bu with
                | true =>
                  have HNA : Hid (NoAdj p.pages) := Lib.hid ((noAdjB_iff _).1 HBU.out)
                  go_region_held3 (fun w' => w'.cell? ⟨w.heap.size, 4, none⟩ = some (.slice ga p.pages.length gc)) (first | assumption | go_keep)
                    (first
                    | ((go_at_call 129
                        refine HSO.out.mono ?_
                        rintro e w1 ⟨rfl, hf1⟩
                        have d4 := hf1.ofDrew.cellSome c4 (by simp)
                        have HF1 := Lib.hid hf1.ofDrew
                        clear hf1))
                    | ((go_at_call 110
                        refine (HCL.out w1 HF1.out).mono ?_
                        rintro e w2 ⟨v2, rfl, ho2, hf2⟩
                        have e4 := hf2.cellSome d4 (by simp)
                        have HF2 := Lib.hid (HF1.out.trans hf2)
                        have HCM := Lib.hid (compact_k w2 ho2 HGL.out)
                        have HOB : Hid (∀ x, x ∈ v2.ownBlock.toList → wc.heap.size ≤ x) := Lib.hid (fun x hx => by
                          cases hb : v2.ownBlock with
                          | none => rw [hb] at hx; cases hx
                          | some g => rw [hb] at hx; simp at hx; rw [hx]; exact Nat.le_trans HF1.out.size (ho2.lt g hb).1)
                        clear ho2 hf2))
                    | ((go_at_call 130
                        refine HCM.out.mono ?_
                        rintro e w3 ⟨n3, a3, c3, rfl, hiff, hf3⟩
                        obtain rfl : n3 = p.pages.length := hiff.2 HNA.out
                        have hf3' : Fr [] wc w3 := (HF2.out.nil.trans hf3).drop HOB.out
                        have g4 := hf3'.cellSome c4 (by simp)
                        have HF3 := Lib.hid hf3'
                        clear hf3 hf3' hiff)))
                  all_goals
                    go_wp2_with fail
                    go_meet
                    exact ⟨rfl, HF3.out⟩
                | false =>
                  have HNA : Hid (¬ NoAdj p.pages) := Lib.hid (fun h => by have := (noAdjB_iff _).2 h; rw [HBU.out] at this; cases this)
                  go_region_held3 (fun w' => w'.cell? ⟨w.heap.size, 4, none⟩ = some (.slice ga p.pages.length gc)) (first | assumption | go_keep)
                    (first
                    | ((go_at_call 129
                        refine HSO.out.mono ?_
                        rintro e w1 ⟨rfl, hf1⟩
                        have d4 := hf1.ofDrew.cellSome c4 (by simp)
                        have HF1 := Lib.hid hf1.ofDrew
                        clear hf1))
                    | ((go_at_call 110
                        refine (HCL.out w1 HF1.out).mono ?_
                        rintro e w2 ⟨v2, rfl, ho2, hf2⟩
                        have e4 := hf2.cellSome d4 (by simp)
                        have HF2 := Lib.hid (HF1.out.trans hf2)
                        have HCM := Lib.hid (compact_k w2 ho2 HGL.out)
                        have HOB : Hid (∀ x, x ∈ v2.ownBlock.toList → wc.heap.size ≤ x) := Lib.hid (fun x hx => by
                          cases hb : v2.ownBlock with
                          | none => rw [hb] at hx; cases hx
                          | some g => rw [hb] at hx; simp at hx; rw [hx]; exact Nat.le_trans HF1.out.size (ho2.lt g hb).1)
                        clear ho2 hf2))
                    | ((go_at_call 130
                        refine HCM.out.mono ?_
                        rintro e w3 ⟨n3, a3, c3, rfl, hiff, hf3⟩
                        have hne : ((n3 : Int) == (p.pages.length : Int)) = false := by
                          have : n3 ≠ p.pages.length := fun h => HNA.out (hiff.1 h)
                          simp; omega
                        have hf3' : Fr [] wc w3 := (HF2.out.nil.trans hf3).drop HOB.out
                        have g4 := hf3'.cellSome c4 (by simp)
                        have HF3 := Lib.hid hf3'
                        clear hf3 hf3' hiff)))
                  all_goals
                    go_wp2_with fail
                    go_meet
                    exact ⟨rfl, HF3.out⟩
            case rest =>
              obtain ⟨rfl, hfr⟩ := hcut
              have HCK3 := Lib.hid (HCK2.out.next hfr)
              have HI3 := Lib.hid (HI.out.kept hfr)
              have d4 := HCK3.out.cells 4
              have d5 := HCK3.out.cells 5
              simp only [pageCells, List.getElem?_cons_zero, List.getElem?_cons_succ] at d4 d5
              clear c0 c1 c2 c3 c4 c5 c7 c8 c9 c10 hfr HCK2 HI
              generalize (bs && bu) = bt at *
              have HF := Lib.hid HCK3.out.fr
              have HCF := Lib.hid (containsFn_k 125 #[] (fun n => !placeB n) _ HI3.out.pages HGL.out enter_bad (fun n _ => bad_k n _) HBN.out)
              by_cases g1 : p.pages.length ≤ 200
              · have g2 : (p.pages.length : Int) ≤ 200 := by omega
                have HBV2 : Hid (b = (bt && !bn && ((p.next == 0) || bx) && !br && !bk && !bh)) := Lib.hid (by rw [HBV.out, decide_eq_true g1]; simp)
                clear g1
                cases hnx : (p.next == 0)
                all_goals
                  go_wp2_with (first
                    | (go_at_call 78; refine HCF.out.mono ?_; rintro e w1 ⟨rfl, rfl⟩)
                    | (go_at_call 126; refine (place_k p.next _ HBX.out).mono ?_; rintro e w1 ⟨rfl, rfl⟩))
                  all_goals
                    go_ret
                    first
                      | exact ⟨by rw [show b = true by rw [HBV2.out]; simp [*]]; rfl, HF.out⟩
                      | exact ⟨by rw [show b = false by rw [HBV2.out]; simp [*]]; rfl, HF.out⟩
              · have g2 : (200 : Int) < (p.pages.length : Int) := by omega
                have HBF : Hid (b = false) := Lib.hid (by rw [HBV.out, decide_eq_false g1]; simp)
                clear g1
                go_wp2
                all_goals
                  go_ret
                  exact ⟨by rw [HBF.out]; rfl, HF.out⟩
          · by_cases k4 : p.kind = 4
            · obtain ⟨bx, hbx⟩ : ∃ bx, placeB p.next = bx := ⟨_, rfl⟩
              obtain ⟨bt, hbt⟩ : ∃ bt, placeB p.root = bt := ⟨_, rfl⟩
              have HBV : Hid (b = ((p.noneB || p.someB) && decide (2 ≤ p.high) && decide (p.high ≤ 4096) && ((p.next == 0) || bx) && !p.hasPairs && !p.hasKids && !p.hasPages)) := Lib.hid (by rw [← HPB.out]; unfold PageD.check nextB; rw [if_neg k1, if_neg k2, if_neg k3, if_pos k4, hbx]; rfl)
              have HBX := Lib.hid hbx
              have HBT := Lib.hid hbt
              have HF := Lib.hid HCK2.out.fr
              clear hbx hbt
              generalize p.hasKids = bk at *
              generalize p.hasPages = bg at *
              generalize p.hasPairs = br at *
              generalize p.heads = bh at *
              go_upto_region 15 with fail
              clear k1 k2 k3 k4
              go_cut [11] from 176 to 188 (fun x wr => x = .bool p.noneB ∧ wc = wr)
              case first =>
                cases h1 : (p.root == 0)
                · have HE : Hid (p.noneB = false) := Lib.hid (by unfold PageD.noneB; rw [h1]; rfl)
                  go_wp2_with fail
                  go_meet
                  exact ⟨by rw [HE.out], rfl⟩
                · cases h2 : (p.depth == 0)
                  · have HE : Hid (p.noneB = false) := Lib.hid (by unfold PageD.noneB; rw [h1, h2]; rfl)
                    go_wp2_with fail
                    go_meet
                    exact ⟨by rw [HE.out], rfl⟩
                  · have HE : Hid (p.noneB = (p.count == 0)) := Lib.hid (by unfold PageD.noneB; rw [h1, h2]; rfl)
                    go_wp2_with fail
                    go_meet
                    exact ⟨by rw [HE.out], rfl⟩
              case rest =>
                obtain ⟨rfl, rfl⟩ := hcut
                go_upto_region 16 with fail
                go_cut [12] from 189 to 211 (fun x wr => x = .bool p.someB ∧ wc = wr)
                case first =>
                  go_wp2_with fail
                  refine (place_k p.root _ HBT.out).mono ?_
                  rintro e w1 ⟨rfl, rfl⟩
                  cases bt
                  · have HE : Hid (p.someB = false) := Lib.hid (by unfold PageD.someB; rw [HBT.out]; rfl)
                    go_wp2_with fail
                    go_meet
                    exact ⟨by rw [HE.out], rfl⟩
                  · by_cases h2 : 1 ≤ p.depth
                    · by_cases h3 : p.depth ≤ 20
                      · by_cases h4 : 1 ≤ p.count
                        · by_cases h5 : p.count ≤ 2147483647
                          · have HE : Hid (p.someB = true) := Lib.hid (by unfold PageD.someB; rw [HBT.out, decide_eq_true h2, decide_eq_true h3, decide_eq_true h4, decide_eq_true h5]; rfl)
                            go_wp2_with fail
                            go_meet
                            exact ⟨by rw [HE.out], rfl⟩
                          · have HE : Hid (p.someB = false) := Lib.hid (by unfold PageD.someB; rw [decide_eq_false h5]; simp)
                            have h5' : 2147483647 < p.count := by omega
                            go_wp2_with fail
                            go_meet
                            exact ⟨by rw [HE.out]; first | rfl | (rw [decide_eq_false (show ¬ p.count ≤ 2147483647 by omega)]), rfl⟩
                        · have HE : Hid (p.someB = false) := Lib.hid (by unfold PageD.someB; rw [decide_eq_false h4]; simp)
                          have h4' : p.count < 1 := by omega
                          go_wp2_with fail
                          go_meet
                          exact ⟨by rw [HE.out], rfl⟩
                      · have HE : Hid (p.someB = false) := Lib.hid (by unfold PageD.someB; rw [decide_eq_false h3]; simp)
                        have h3' : 20 < p.depth := by omega
                        go_wp2_with fail
                        go_meet
                        exact ⟨by rw [HE.out], rfl⟩
                    · have HE : Hid (p.someB = false) := Lib.hid (by unfold PageD.someB; rw [decide_eq_false h2]; simp)
                      have h2' : p.depth < 1 := by omega
                      go_wp2_with fail
                      go_meet
                      exact ⟨by rw [HE.out], rfl⟩
                case rest =>
                  obtain ⟨rfl, rfl⟩ := hcut
                  generalize p.noneB = b1 at *
                  generalize p.someB = b2 at *
                  by_cases h1 : 2 ≤ p.high
                  · by_cases h2 : p.high ≤ 4096
                    · have HBV2 : Hid (b = ((b1 || b2) && ((p.next == 0) || bx) && !br && !bk && !bg)) := Lib.hid (by rw [HBV.out, decide_eq_true h1, decide_eq_true h2]; simp)
                      cases hnx : (p.next == 0)
                      all_goals
                        go_wp2_with (go_at_call 126; refine (place_k p.next _ HBX.out).mono ?_; rintro e w1 ⟨rfl, rfl⟩)
                        all_goals
                          go_ret
                          first
                            | exact ⟨by rw [show b = true by rw [HBV2.out]; simp [*]]; rfl, HF.out⟩
                            | exact ⟨by rw [show b = false by rw [HBV2.out]; simp [*]]; rfl, HF.out⟩
                    · have HBF : Hid (b = false) := Lib.hid (by rw [HBV.out, decide_eq_false h2]; simp)
                      have h2' : 4096 < p.high := by omega
                      go_wp2
                      all_goals
                        go_ret
                        exact ⟨by rw [HBF.out]; rfl, HF.out⟩
                  · have HBF : Hid (b = false) := Lib.hid (by rw [HBV.out, decide_eq_false h1]; simp)
                    have h1' : p.high < 2 := by omega
                    go_wp2
                    all_goals
                      go_ret
                      exact ⟨by rw [HBF.out]; rfl, HF.out⟩
            · have HBF : Hid (b = false) := Lib.hid (by rw [← HPB.out]; unfold PageD.check; rw [if_neg k1, if_neg k2, if_neg k3, if_neg k4])
              have HF := Lib.hid HCK2.out.fr
              go_wp2
              all_goals
                go_ret
                exact ⟨by rw [HBF.out]; rfl, HF.out⟩
theorem pageCheck_k {S : List Nat} {v : Value} {p : PageD} {b : Bool} (w : World) (h : PageAt S w v p) (hs : p.small) (hb : p.check = b) :
    Calls Tryz.prog 94 #[v] w fun e w' => e = .returned (.int .i64 (errB b)) ∧ Fr [] w w' := by
  obtain ⟨pv, kv, dv, gv, rfl, hi⟩ := h.mono (S' := []) (by simp)
  obtain ⟨_, _, rfl, _⟩ := Slc.form hi.pairs
  obtain ⟨_, _, rfl, _⟩ := Slc.form hi.keys
  obtain ⟨_, _, rfl, _⟩ := Slc.form hi.kids
  obtain ⟨_, _, rfl, _⟩ := Slc.form hi.pages
  exact check_raw w hi hs hb
end Go.Proofs.YtgpohemcfgepeaaGreat
