/- Few: is a page little? -/
import Derived.Test.YtgpeoonpoogniaaGI
import Derived.Test.YtgpeoonpoogniaaGF
import Derived.Test.YtgpeoonpoogniaaG7
import Derived.Deep.MidRow
import Derived.Test.YtgpeoonpoogniaaGE
import Derived.Test.YtgpeoonpoogniaaG1
import Derived.Deep.RegionHeld3
namespace Go.Proofs.Ytgpeoonpoogniaa
open Go.RowKit Go.MapKept

theorem few_pairs {l : List PairD} {k : Nat} (hk : k < l.length) (q : PairD → Bool) : (l.drop k).all q = (q l[k] && (l.drop (k + 1)).all q) := by
  rw [List.drop_eq_getElem_cons hk, List.all_cons]
theorem few_keys {l : List ByteArray} {k : Nat} (hk : k < l.length) (q : ByteArray → Bool) : (l.drop k).all q = (q l[k] && (l.drop (k + 1)).all q) := by
  rw [List.drop_eq_getElem_cons hk, List.all_cons]

set_option maxRecDepth 100000 in
set_option maxHeartbeats 4000000 in
theorem few_k {S : List Nat} {v : Value} {p : PageD} {b : Bool} (w : World) (h : PageAt S w v p) (hb : fewB p = b) :
    Calls Try.prog 18 #[v] w fun e w' => e = .returned (.bool b) ∧ Fr [] w w' := by
  obtain ⟨pv, kv, dv, gv, rfl, hi⟩ := h
  obtain ⟨pa, pc, rfl, _⟩ := Slc.form hi.pairs
  obtain ⟨ka, kc, rfl, _⟩ := Slc.form hi.keys
  obtain ⟨da, dc, rfl, _⟩ := Slc.form hi.kids
  obtain ⟨ga, gc, rfl, _⟩ := Slc.form hi.pages
  obtain ⟨W1, hW1⟩ : ∃ W1, w.alloc (.cells (pageCells p (.slice pa p.pairs.length pc) (.slice ka p.keys.length kc) (.slice da p.kids.length dc) (.slice ga p.pages.length gc)).toArray 43) = W1 := ⟨_, rfl⟩
  have f1 : Fr [] w W1 := by rw [← hW1]; exact Fr.alloc1 _ _
  have hbk : W1.heap[w.heap.size]? = some (.cells (pageCells p (.slice pa p.pairs.length pc) (.slice ka p.keys.length kc) (.slice da p.kids.length dc) (.slice ga p.pages.length gc)).toArray 43 (0, 0)) := by rw [← hW1]; exact blk_new _ _
  have c1 := blk_cell hbk 1
  have c2 := blk_cell hbk 2
  have c3 := blk_cell hbk 3
  have c4 := blk_cell hbk 4
  simp only [pageCells, List.getElem?_toArray, List.getElem?_cons_zero, List.getElem?_cons_succ] at c1 c2 c3 c4
  have HPR : Hid (Prs [] W1 (.slice pa p.pairs.length pc) p.pairs) := Lib.hid ((hi.pairs.kept f1.nil).mono (by simp))
  have HKY : Hid (Txts [] W1 (.slice ka p.keys.length kc) p.keys) := Lib.hid ((hi.keys.kept f1.nil).mono (by simp))
  have HF := Lib.hid f1
  have HB := Lib.hid hb
  clear hi f1 hbk hb
  unfold pageCells at hW1
  unfold pageCells
  go_enter Try.func18, Try.ntmps18
  by_cases h1 : p.pairs.length ≤ 300
  · have i1 : ¬ (300 : Int) < (p.pairs.length : Int) := by omega
    have d1 : decide ((300 : Int) < (p.pairs.length : Int)) = false := decide_eq_false i1
    by_cases h2 : p.keys.length ≤ 300
    · have i2 : ¬ (300 : Int) < (p.keys.length : Int) := by omega
      by_cases h3 : p.kids.length ≤ 300
      · have i3 : ¬ (300 : Int) < (p.kids.length : Int) := by omega
        by_cases h4 : p.pages.length ≤ 300
        · have i4 : ¬ (300 : Int) < (p.pages.length : Int) := by omega
          have HB2 : Hid ((p.pairs.all (fun x => decide (x.1.size ≤ 200) && decide (x.2.size ≤ 200)) && p.keys.all fun x => decide (x.size ≤ 200)) = b) := Lib.hid (by
            rw [← HB.out]; unfold fewB; rw [decide_eq_true h1, decide_eq_true h2, decide_eq_true h3, decide_eq_true h4]; simp only [Bool.true_and])
          go_wp2_with fail
          go_loopw [3] (fun i wr => ∃ k : Nat, k ≤ p.pairs.length ∧ i = .int .i64 k ∧ W1 = wr ∧ Hid (((p.pairs.drop k).all (fun x => decide (x.1.size ≤ 200) && decide (x.2.size ≤ 200)) && p.keys.all fun x => decide (x.size ≤ 200)) = b)) (fun i _ => p.pairs.length - (intOf i).toNat)
          case atStart => exact ⟨0, Nat.zero_le _, rfl, rfl, HB2⟩
          case round =>
            obtain ⟨k, hkl, rfl, rfl, HN⟩ := hrel
            by_cases hlt : k < p.pairs.length
            · have hkI : (k : Int) < (p.pairs.length : Int) := by omega
              obtain ⟨B, off, rfl⟩ : ∃ B off, pa = some ⟨B, off, none⟩ := by
                rcases HPR.out with ⟨_, _, _, h0, _⟩ | ⟨B, off, cap, h, _⟩
                · omega
                · cases h; exact ⟨B, off, rfl⟩
              obtain ⟨q1, q2⟩ := HPR.out.at hlt
              have HS := Lib.hid (few_pairs hlt (fun x => decide (x.1.size ≤ 200) && decide (x.2.size ≤ 200)))
              generalize p.pairs[k] = x at *
              obtain ⟨s1, s2⟩ := x
              dsimp only at q1 q2
              by_cases z1 : s1.size ≤ 200
              · have j1 : ¬ (200 : Int) < (s1.size : Int) := by omega
                have dj1 : decide ((200 : Int) < (s1.size : Int)) = false := decide_eq_false j1
                by_cases z2 : s2.size ≤ 200
                · have j2 : ¬ (200 : Int) < (s2.size : Int) := by omega
                  have HN2 : Hid (((p.pairs.drop (k + 1)).all (fun x => decide (x.1.size ≤ 200) && decide (x.2.size ≤ 200)) && p.keys.all fun x => decide (x.size ≤ 200)) = b) := Lib.hid (by
                    rw [← HN.out, HS.out]; simp only [decide_eq_true z1, decide_eq_true z2, Bool.true_and])
                  go_wp2_with fail
                  go_roundw
                  case rel => exact ⟨k + 1, by omega, by go_num, trivial, HN2⟩
                  case measure => simp [intOf]; omega
                · have j2 : (200 : Int) < (s2.size : Int) := by omega
                  have HBF : Hid (b = false) := Lib.hid (by rw [← HN.out, HS.out]; simp only [decide_eq_true z1, decide_eq_false z2, Bool.false_and, Bool.true_and])
                  go_wp2_with fail
                  go_ret
                  exact ⟨by rw [HBF.out]; rfl, HF.out⟩
              · have j1 : (200 : Int) < (s1.size : Int) := by omega
                have HBF : Hid (b = false) := Lib.hid (by rw [← HN.out, HS.out]; simp only [decide_eq_false z1, Bool.false_and])
                go_wp2_with fail
                go_ret
                exact ⟨by rw [HBF.out]; rfl, HF.out⟩
            · have hkI : ¬ (k : Int) < (p.pairs.length : Int) := by omega
              have HB3 : Hid ((p.keys.all fun x => decide (x.size ≤ 200)) = b) := Lib.hid (by rw [← HN.out, List.drop_of_length_le (by omega)]; rfl)
              go_wp2_with fail
              go_loopw [4] (fun i wr => ∃ k : Nat, k ≤ p.keys.length ∧ i = .int .i64 k ∧ W1 = wr ∧ Hid (((p.keys.drop k).all fun x => decide (x.size ≤ 200)) = b)) (fun i _ => p.keys.length - (intOf i).toNat)
              case atStart => exact ⟨0, Nat.zero_le _, rfl, rfl, HB3⟩
              case round =>
                obtain ⟨k, hkl, rfl, rfl, HN⟩ := hrel
                by_cases hlt : k < p.keys.length
                · have hkI : (k : Int) < (p.keys.length : Int) := by omega
                  obtain ⟨B, off, rfl⟩ : ∃ B off, ka = some ⟨B, off, none⟩ := by
                    rcases HKY.out with ⟨_, _, _, h0, _⟩ | ⟨B, off, cap, h, _⟩
                    · omega
                    · cases h; exact ⟨B, off, rfl⟩
                  have q1 := HKY.out.at hlt
                  have HS := Lib.hid (few_keys hlt (fun x => decide (x.size ≤ 200)))
                  generalize p.keys[k] = s1 at *
                  by_cases z1 : s1.size ≤ 200
                  · have j1 : ¬ (200 : Int) < (s1.size : Int) := by omega
                    have HN2 : Hid (((p.keys.drop (k + 1)).all fun x => decide (x.size ≤ 200)) = b) := Lib.hid (by
                      rw [← HN.out, HS.out]; simp only [decide_eq_true z1, Bool.true_and])
                    go_wp2_with fail
                    go_roundw
                    case rel => exact ⟨k + 1, by omega, by go_num, trivial, HN2⟩
                    case measure => simp [intOf]; omega
                  · have j1 : (200 : Int) < (s1.size : Int) := by omega
                    have HBF : Hid (b = false) := Lib.hid (by rw [← HN.out, HS.out]; simp only [decide_eq_false z1, Bool.false_and])
                    go_wp2_with fail
                    go_ret
                    exact ⟨by rw [HBF.out]; rfl, HF.out⟩
                · have hkI : ¬ (k : Int) < (p.keys.length : Int) := by omega
                  have HBT : Hid (b = true) := Lib.hid (by rw [← HN.out, List.drop_of_length_le (by omega)]; rfl)
                  go_wp2_with fail
                  go_ret
                  exact ⟨by rw [HBT.out]; rfl, HF.out⟩
        · have i4 : (300 : Int) < (p.pages.length : Int) := by omega
          have HBF : Hid (b = false) := Lib.hid (by rw [← HB.out]; unfold fewB; simp [h4])
          go_wp2_with fail
          go_ret
          exact ⟨by rw [HBF.out]; rfl, HF.out⟩
      · have i3 : (300 : Int) < (p.kids.length : Int) := by omega
        have HBF : Hid (b = false) := Lib.hid (by rw [← HB.out]; unfold fewB; simp [h3])
        go_wp2_with fail
        go_ret
        exact ⟨by rw [HBF.out]; rfl, HF.out⟩
    · have i2 : (300 : Int) < (p.keys.length : Int) := by omega
      have HBF : Hid (b = false) := Lib.hid (by rw [← HB.out]; unfold fewB; simp [h2])
      go_wp2_with fail
      go_ret
      exact ⟨by rw [HBF.out]; rfl, HF.out⟩
  · have i1 : (300 : Int) < (p.pairs.length : Int) := by omega
    have HBF : Hid (b = false) := Lib.hid (by rw [← HB.out]; unfold fewB; simp [h1])
    go_wp2_with fail
    go_ret
    exact ⟨by rw [HBF.out]; rfl, HF.out⟩
end Go.Proofs.Ytgpeoonpoogniaa


/- A call of a store's script as a row of cells: laid into a variable as a whole. -/
namespace Go.Proofs.Ytgpeoonpoogniaa
open Go.RowKit Go.MapKept

theorem setsL_all : ∀ (vs : List Value) (o : Nat) (cs : List Value), o + vs.length = cs.length → setsL cs o vs = cs.take o ++ vs
  | [], o, cs, h => by
    show cs = _
    rw [List.take_of_length_le (by simp at h; omega), List.append_nil]
  | v :: vs, o, cs, h => by
    show setsL (cs.set o v) (o + 1) vs = _
    rw [List.length_cons] at h
    rw [setsL_all vs (o + 1) (cs.set o v) (by rw [List.length_set]; omega), List.take_succ_eq_append_getElem (by rw [List.length_set]; omega), List.getElem_set_self, List.take_set_of_le (Nat.le_refl _)]
    simp
def zero21 : List Value := [.int .i64 0, .int .i64 0, .int .i64 0, .int .i64 0, .int .i64 0, nilV, nilV, nilV, nilV, .int .i64 0, .int .u64 0, .int .i64 0, .int .i64 0, .int .i64 0, .int .i64 0, .int .i64 0, .int .i64 0, nilV, nilV, .int .i64 0, .int .u8 0]
theorem call_size : (Try.prog.info? 51).map (·.size) = some 21 := by kernel_rfl
/-- A whole call is laid into a new variable. -/
theorem call_new (wr : World) (L : List Value) (hL : L.length = 21) {W1 : World} (h : (wr.alloc (.cells zero21.toArray 51)).setCells wr.heap.size 0 L = W1) : Fr [] wr W1 ∧ W1.heap[wr.heap.size]? = some (.cells L.toArray 51 (0, 0)) := by
  have hs := Fr.setCells wr.heap.size L 0 (wr.alloc (.cells zero21.toArray 51))
  have hb := blk_setCells L 0 (wr.alloc (.cells zero21.toArray 51)) zero21 (blk_new wr (.cells zero21.toArray 51))
  rw [h] at hs hb
  rw [setsL_all L 0 zero21 (by rw [hL]; rfl)] at hb
  exact ⟨((Fr.alloc1 wr (.cells zero21.toArray 51)).nil.trans hs).drop (by simp), hb⟩
theorem call_there (wr : World) : (wr.alloc (.cells zero21.toArray 51)).there wr.heap.size 0 21 := fun j hj => by
  have hbz := blk_new wr (.cells zero21.toArray 51)
  rw [Nat.zero_add]
  refine ⟨?_, blk_free hbz j⟩
  rw [blk_cell hbz j, List.getElem?_toArray, List.getElem?_eq_getElem (by exact hj)]
  rfl
def callL (c : CallS) (pa : Option Addr) (pc : Nat) (ka : Option Addr) (kc : Nat) (da : Option Addr) (dc : Nat) (ga : Option Addr) (gc : Nat) (d0 d1 : Int) (xa : Option Addr) (xl xc : Nat) (ya : Option Addr) (yl yc : Nat) (d4 d5 : Int) : List Value :=
  [.int .i64 c.kind, .int .i64 c.n, .int .i64 c.m, .int .i64 c.count, .int .i64 c.p.kind, .slice pa c.p.pairs.length pc, .slice ka c.p.keys.length kc, .slice da c.p.kids.length dc, .slice ga c.p.pages.length gc, .int .i64 c.p.next, .int .u64 c.p.epoch, .int .i64 c.p.root, .int .i64 c.p.depth, .int .i64 c.p.count, .int .i64 c.p.high, .int .i64 d0, .int .i64 d1, .slice xa xl xc, .slice ya yl yc, .int .i64 d4, .int .u8 d5]
theorem callL_one (c : CallS) (pa : Option Addr) (pc : Nat) (ka : Option Addr) (kc : Nat) (da : Option Addr) (dc : Nat) (ga : Option Addr) (gc : Nat) (d0 d1 : Int) (xa : Option Addr) (xl xc : Nat) (ya : Option Addr) (yl yc : Nat) (d4 d5 : Int) :
    ∀ v ∈ callL c pa pc ka kc da dc ga gc d0 d1 xa xl xc ya yl yc d4 d5, v.oneCell' = true := by
  unfold callL
  simp [Value.oneCell']
end Go.Proofs.Ytgpeoonpoogniaa


/- A script of a store's calls in memory; done. -/
namespace Go.Proofs.Ytgpeoonpoogniaa
open Go.RowKit Go.MapKept

/-- A call in memory: 21 cells. -/
structure PCallAt (S : List Nat) (w : World) (B off : Nat) (c : CallS) (pa : Option Addr) (pc : Nat) (ka : Option Addr) (kc : Nat) (da : Option Addr) (dc : Nat) (ga : Option Addr) (gc : Nat) (d0 d1 : Int) (xa : Option Addr) (xl xc : Nat) (ya : Option Addr) (yl yc : Nat) (d4 d5 : Int) : Prop where
  cells : ∀ j u, (callL c pa pc ka kc da dc ga gc d0 d1 xa xl xc ya yl yc d4 d5)[j]? = some u → w.cell? ⟨B, off + j, none⟩ = some u
  page : PageIn S w c.p (.slice pa c.p.pairs.length pc) (.slice ka c.p.keys.length kc) (.slice da c.p.kids.length dc) (.slice ga c.p.pages.length gc)
  out : B ∉ S
  wf : PageWf c.p
def PCall (S : List Nat) (w : World) (B off : Nat) (c : CallS) : Prop := ∃ pa pc ka kc da dc ga gc d0 d1 xa xl xc ya yl yc d4 d5, PCallAt S w B off c pa pc ka kc da dc ga gc d0 d1 xa xl xc ya yl yc d4 d5
theorem PCall.kept {S : List Nat} {w w' : World} {B off : Nat} {c : CallS} (h : PCall S w B off c) (hf : Fr S w w') : PCall S w' B off c := by
  obtain ⟨pa, pc, ka, kc, da, dc, ga, gc, d0, d1, xa, xl, xc, ya, yl, yc, d4, d5, h⟩ := h
  exact ⟨_, _, _, _, _, _, _, _, _, _, _, _, _, _, _, _, _, _, ⟨fun j u hj => hf.cellSome (h.cells j u hj) h.out, h.page.kept hf, h.out, h.wf⟩⟩
theorem PCall.more {S S' : List Nat} {w : World} {B off : Nat} {c : CallS} (h : PCall S w B off c) (hs : ∀ x, x ∈ S' → x ∈ S ∨ w.heap.size ≤ x) : PCall S' w B off c := by
  obtain ⟨pa, pc, ka, kc, da, dc, ga, gc, d0, d1, xa, xl, xc, ya, yl, yc, d4, d5, h⟩ := h
  refine ⟨_, _, _, _, _, _, _, _, _, _, _, _, _, _, _, _, _, _, ⟨h.cells, h.page.more hs, fun hm => ?_, h.wf⟩⟩
  have h0 := h.cells 0 _ rfl
  rcases hs B hm with h1 | h1
  · exact h.out h1
  · have := lt_of_cell h0
    simp only at this
    omega
def Scr7 (S : List Nat) (w : World) (v : Value) (cs : List CallS) : Prop :=
  (∃ a cap, v = .slice a 0 cap ∧ cs = []) ∨ ∃ B off cap, v = .slice (some ⟨B, off, none⟩) cs.length cap ∧ ∀ i c, cs[i]? = some c → PCall S w B (off + i * 21) c
theorem Scr7.kept {S : List Nat} {w w' : World} {v : Value} {cs : List CallS} (h : Scr7 S w v cs) (hf : Fr S w w') : Scr7 S w' v cs := by
  rcases h with h | ⟨B, off, cap, h, hc⟩
  · exact .inl h
  · exact .inr ⟨B, off, cap, h, fun i c hi => (hc i c hi).kept hf⟩
theorem Scr7.more {S S' : List Nat} {w : World} {v : Value} {cs : List CallS} (h : Scr7 S w v cs) (hs : ∀ x, x ∈ S' → x ∈ S ∨ w.heap.size ≤ x) : Scr7 S' w v cs := by
  rcases h with h | ⟨B, off, cap, h, hc⟩
  · exact .inl h
  · exact .inr ⟨B, off, cap, h, fun i c hi => (hc i c hi).more hs⟩
theorem Scr7.form {S : List Nat} {w : World} {v : Value} {cs : List CallS} (h : Scr7 S w v cs) : ∃ a cap, v = .slice a cs.length cap := by
  rcases h with ⟨a, cap, h, rfl⟩ | ⟨B, off, cap, h, _⟩
  · exact ⟨a, cap, h⟩
  · exact ⟨_, _, h⟩
theorem done_step {T : StD} {cs : List CallS} {k : Nat} (hk : k < cs.length) : (cs.take (k + 1)).foldl stepT T = stepT ((cs.take k).foldl stepT T) cs[k] := by
  rw [List.take_succ_eq_append_getElem hk, List.foldl_append]; rfl
theorem PageIn.at {S S' : List Nat} {w0 w : World} {p : PageD} {pv kv dv gv : Value} (h : PageIn S w0 p pv kv dv gv) (hf : Fr S w0 w) (hs : ∀ x, x ∈ S' → x ∈ S ∨ w0.heap.size ≤ x) : PageIn S' w p pv kv dv gv := by
  have h1 := (h.more (S' := S ++ S') (fun x hx => by
    rcases List.mem_append.1 hx with h | h
    · exact .inl h
    · exact hs x h)).kept (hf.mono (fun x hx _ => List.mem_append.2 (.inl hx)))
  exact ⟨h1.pairs.mono (fun x hx => List.mem_append.2 (.inr hx)), h1.keys.mono (fun x hx => List.mem_append.2 (.inr hx)), h1.kids.mono (fun x hx => List.mem_append.2 (.inr hx)), h1.pages.mono (fun x hx => List.mem_append.2 (.inr hx))⟩
theorem u64_bd {a : Int} (h : (Lit.int .u64 a).wf = true) : 0 ≤ a ∧ a < 18446744073709551616 := by
  simp [Lit.wf, IntKind.min, IntKind.max, IntKind.bits, IntKind.signed] at h; omega

set_option maxRecDepth 100000 in
set_option maxHeartbeats 8000000 in
theorem done7_k {sb b ml mc fm : Nat} {T : StD} {v : Value} {cs : List CallS} (w : World) (h : StoAt w sb b ml mc fm T) (hT : T.Live) (he : T.super.epoch ≤ 1) (hs : Scr7 [sb, fm, b, ml, mc] w v cs) :
    Calls Try.prog 12 #[.pointer (some ⟨sb, 0, none⟩), v] w fun e w' => e = .returned (.tuple #[]) ∧ StoR w sb b ml mc fm (doneT T cs) w' := by
  obtain ⟨a, cap, rfl⟩ := hs.form
  have HD := Lib.hid h
  have HS := Lib.hid hs
  have HT := Lib.hid (And.intro hT he)
  clear h hs hT he
  go_enter Try.func12, Try.ntmps12
  go_wp2_with fail
  go_loopw [4] (fun i wr => ∃ k : Nat, k ≤ cs.length ∧ k ≤ 40 ∧ i = .int .i64 k ∧ StoR w sb b ml mc fm ((cs.take k).foldl stepT T) wr) (fun i _ => cs.length - (intOf i).toNat)
  case atStart => exact ⟨0, by omega, by omega, rfl, fm, HD.out, Fr.refl _ _, .inl rfl, ApK.refl _ _⟩
  case round =>
    obtain ⟨k, hkl, hk40, rfl, fm1, hst, hfr, hmk⟩ := hrel
    have HFR := Lib.hid hfr
    have HMK := Lib.hid hmk
    have HST := Lib.hid hst
    clear hfr hmk hst
    by_cases hlt : k < cs.length
    · have hkI : (k : Int) < (cs.length : Int) := by omega
      by_cases hlt4 : k < 40
      · have hk4 : (k : Int) < 40 := by omega
        have HLV := Lib.hid (HT.out.1.foldT k (cs.take k) (by omega) (by rw [List.length_take]; omega) HT.out.2)
        have hstp := done_step (T := T) hlt
        rcases HS.out with ⟨_, _, _, h0⟩ | ⟨B, off, cap', hv, hall⟩
        · exfalso; rw [h0] at hlt; simp at hlt
        · obtain ⟨rfl, rfl⟩ : a = some ⟨B, off, none⟩ ∧ cap = cap' := by simp only [Value.slice.injEq] at hv; exact ⟨hv.1, hv.2.2⟩
          have hca := hall k cs[k] (List.getElem?_eq_getElem hlt)
          obtain ⟨E, hE⟩ : ∃ E, (cs.take k).foldl stepT T = E := ⟨_, rfl⟩
          have hkk : (cs.take k).length = k := by rw [List.length_take]; omega
          rw [hE, hkk] at HLV
          rw [hE] at HST hstp
          generalize cs[k] = c at *
          have HSTP := Lib.hid hstp
          obtain ⟨pa, pc, ka, kc, da, dc, ga, gc, d0, d1, xa, xl, xc, ya, yl, yc, d4, d5, hca⟩ := hca
          have HCA := Lib.hid hca
          obtain ⟨L21, hL21⟩ : ∃ L, callL c pa pc ka kc da dc ga gc d0 d1 xa xl xc ya yl yc d4 d5 = L := ⟨_, rfl⟩
          have HLE := Lib.hid hL21
          have hLlen : L21.length = 21 := by rw [← hL21]; rfl
          have hsz : (Try.prog.info? 51).map (·.size) = some L21.length := by rw [hLlen]; exact call_size
          have hsz2 : (Try.prog.info? 51).map (·.size) = some L21.toArray.size := by rw [List.size_toArray, hLlen]; exact call_size
          have hone : L21.toArray.all (·.oneCell') = true := all_oneCell_toArray (by rw [← hL21]; exact callL_one c pa pc ka kc da dc ga gc d0 d1 xa xl xc ya yl yc d4 d5)
          have hrg : wr.rangeAt B (off + k * 21) L21 := fun j u hj => HFR.out.cellSome (hca.cells j u (by rw [hL21]; exact hj)) hca.out
          have hth : (wr.alloc (.cells zero21.toArray 51)).there wr.heap.size 0 L21.toArray.size := by have e : L21.toArray.size = 21 := (List.size_toArray ..).trans hLlen; rw [e]; exact call_there wr
          unfold zero21 at hth
          have HW : Hid (∀ W1, (wr.alloc (.cells zero21.toArray 51)).setCells wr.heap.size 0 L21.toArray.toList = W1 → Fr [] wr W1 ∧ W1.heap[wr.heap.size]? = some (.cells L21.toArray 51 (0, 0))) := Lib.hid fun W1 hW1 => call_new wr L21 hLlen (by rw [← hW1, List.toList_toArray])
          unfold zero21 at HW
          clear hca hall hv hstp hE hLlen hL21
          go_upto_region 4 with (first
            | (refine wpList_load_mid rfl 51 _ rfl B (off + k * 21) rfl L21 _ hrg Try.underlying51 rfl hsz ?_)
            | (refine wpList_store_mid rfl 51 _ _ rfl wr.heap.size 0 L21.toArray rfl rfl hth hsz2 hone ?_
               obtain ⟨W1, hW1⟩ : ∃ W1, (wr.alloc (.cells #[.int .i64 0, .int .i64 0, .int .i64 0, .int .i64 0, .int .i64 0, nilV, nilV, nilV, nilV, .int .i64 0, .int .u64 0, .int .i64 0, .int .i64 0, .int .i64 0, .int .i64 0, .int .i64 0, .int .i64 0, nilV, nilV, .int .i64 0, .int .u8 0] 51)).setCells wr.heap.size 0 L21.toArray.toList = W1 := ⟨_, rfl⟩
               obtain ⟨f1, hbk⟩ := HW.out W1 hW1
               rw [hW1]
               clear hW1 hrg hsz hsz2 hone hth HW))
          rw [← HLE.out] at hbk
          unfold callL at hbk
          have HV : Hid (∀ W, Fr [] W1 W → W.heap[wr.heap.size]? = some (.cells #[.int .i64 c.kind, .int .i64 c.n, .int .i64 c.m, .int .i64 c.count, .int .i64 c.p.kind, .slice pa c.p.pairs.length pc, .slice ka c.p.keys.length kc, .slice da c.p.kids.length dc, .slice ga c.p.pages.length gc, .int .i64 c.p.next, .int .u64 c.p.epoch, .int .i64 c.p.root, .int .i64 c.p.depth, .int .i64 c.p.count, .int .i64 c.p.high, .int .i64 d0, .int .i64 d1, .slice xa xl xc, .slice ya yl yc, .int .i64 d4, .int .u8 d5] 51 (0, 0))) := Lib.hid fun W hf => hf.heap hbk (by simp)
          have HF1 := Lib.hid f1
          have c0 := blk_cell hbk 0
          have c1 := blk_cell hbk 1
          have c2 := blk_cell hbk 2
          have c3 := blk_cell hbk 3
          have c4 := blk_cell hbk 4
          have c5 := blk_cell hbk 5
          have c6 := blk_cell hbk 6
          have c7 := blk_cell hbk 7
          have c8 := blk_cell hbk 8
          have c9 := blk_cell hbk 9
          have c10 := blk_cell hbk 10
          have c11 := blk_cell hbk 11
          have c12 := blk_cell hbk 12
          have c13 := blk_cell hbk 13
          have c14 := blk_cell hbk 14
          simp only [List.getElem?_toArray, List.getElem?_cons_zero, List.getElem?_cons_succ] at c0 c1 c2 c3 c4 c5 c6 c7 c8 c9 c10 c11 c12 c13 c14
          clear f1 hbk
          have HPG1 := Lib.hid (PageIn.at (S' := []) HCA.out.page (HFR.out.trans HF1.out.nil) (by simp))
          go_wp2_with fail
          refine (few_k (S := []) (p := c.p) W1 ⟨_, _, _, _, rfl, HPG1.out⟩ rfl).mono ?_
          rintro e w2 ⟨rfl, hf2⟩
          have hv2 := HV.out w2 hf2
          have HL := Lib.hid (HF1.out.trans hf2)
          clear c0 c1 c2 c3 c4 c5 c6 c7 c8 c9 c10 c11 c12 c13 c14 hf2 HV
          have l0 := blk_cell hv2 0
          have l1 := blk_cell hv2 1
          have l2 := blk_cell hv2 2
          have l3 := blk_cell hv2 3
          have l4 := blk_cell hv2 4
          have l5 := blk_cell hv2 5
          have l6 := blk_cell hv2 6
          have l7 := blk_cell hv2 7
          have l8 := blk_cell hv2 8
          have l9 := blk_cell hv2 9
          have l10 := blk_cell hv2 10
          have l11 := blk_cell hv2 11
          have l12 := blk_cell hv2 12
          have l13 := blk_cell hv2 13
          have l14 := blk_cell hv2 14
          simp only [List.getElem?_toArray, List.getElem?_cons_zero, List.getElem?_cons_succ] at l0 l1 l2 l3 l4 l5 l6 l7 l8 l9 l10 l11 l12 l13 l14
          have HST2 := Lib.hid (HST.out.kept HL.out)
          have HPG := Lib.hid (PageIn.at (S' := [sb, fm1, b, ml, mc]) HCA.out.page (HFR.out.trans HL.out.nil) (fun x hx => by
            have h1 := HMK.out.1
            simp only [List.mem_cons, List.not_mem_nil, or_false] at hx ⊢
            rcases hx with h | h | h | h | h
            · exact .inl (.inl h)
            · rcases h1 with h1 | h1
              · exact .inl (.inr (.inl (h.trans h1)))
              · exact .inr (by rw [h]; exact h1)
            · exact .inl (.inr (.inr (.inl h)))
            · exact .inl (.inr (.inr (.inr (.inl h))))
            · exact .inl (.inr (.inr (.inr (.inr h))))))
          have HEND : Hid (∀ T' w3, StoR w2 sb b ml mc fm1 T' w3 → StoR w sb b ml mc fm T' w3) := Lib.hid fun T' w3 hr =>
            StoR.trans (HFR.out.trans HL.out.nil) ⟨HMK.out.1, HMK.out.2.trans (ApK.ofFr HL.out HST.out.lt.1 (by simp)) HFR.out.size⟩ hr
          have HSAME : Hid (StoR w sb b ml mc fm E w2) := Lib.hid (HEND.out _ _ (StoR.refl HST2.out))
          have HWF := Lib.hid HCA.out.wf
          have HOK := Lib.hid (HLV.out.1.run.good.ok HLV.out.1.calm.fine.n4)
          clear hv2
          by_cases hfw : fewB c.p = true
          · rw [hfw]
            by_cases h1 : c.kind = 1
            · have HS1 : Hid (stepT E c = (E.lay c.n c.p).2.2) := Lib.hid (by unfold stepT; rw [if_pos hfw]; simp [h1])
              rw [HS1.out] at HSTP
              rw [h1] at l0
              clear h1
              go_wp2_with fail
              refine (lay_s c.n w2 HST2.out HLV.out.1.run.good ⟨_, _, _, _, rfl, HPG.out⟩ (fewB_small hfw) (u64_bd HWF.out.epoch).1 (u64_bd HWF.out.epoch).2).mono ?_
              rintro e w3 ⟨rfl, hr3⟩
              have HR3 := Lib.hid (HEND.out _ _ hr3)
              clear hr3
              go_wp2
              go_roundw
              case rel => exact ⟨k + 1, by omega, by omega, by go_num, by rw [HSTP.out]; exact HR3.out⟩
              case measure => simp [intOf]; omega
            · skip
              by_cases h2 : c.kind = 2
              · have HS1 : Hid (stepT E c = (E.drop c.n).2) := Lib.hid (by unfold stepT; rw [if_pos hfw]; simp [h2])
                rw [HS1.out] at HSTP
                rw [h2] at l0
                clear h1 h2
                go_wp2_with fail
                refine (sdrop_k c.n w2 HST2.out HOK.out.1).mono ?_
                rintro e w3 ⟨rfl, hr3⟩
                have HR3 := Lib.hid (HEND.out _ _ hr3)
                clear hr3
                go_wp2
                go_roundw
                case rel => exact ⟨k + 1, by omega, by omega, by go_num, by rw [HSTP.out]; exact HR3.out⟩
                case measure => simp [intOf]; omega
              · skip
                by_cases h4 : c.kind = 4
                · have HS1 : Hid (stepT E c = (E.commit c.n c.m c.count).2) := Lib.hid (by unfold stepT; rw [if_pos hfw]; simp [h4])
                  rw [HS1.out] at HSTP
                  rw [h4] at l0
                  clear h1 h2 h4
                  go_wp2_with fail
                  refine (commit_k c.n c.m c.count w2 HST2.out HLV.out.1.run.good (by have := HLV.out.1.holds.ep; omega) (by have := HLV.out.1.holds.ep; omega) (by have := HLV.out.1.len; omega)).mono ?_
                  rintro e w3 ⟨rfl, hr3⟩
                  have HR3 := Lib.hid (HEND.out _ _ hr3)
                  clear hr3
                  go_wp2
                  go_roundw
                  case rel => exact ⟨k + 1, by omega, by omega, by go_num, by rw [HSTP.out]; exact HR3.out⟩
                  case measure => simp [intOf]; omega
                · skip
                  by_cases h5 : c.kind = 5
                  · have HS1 : Hid (stepT E c = E.abort) := Lib.hid (by unfold stepT; rw [if_pos hfw]; simp [h5])
                    rw [HS1.out] at HSTP
                    rw [h5] at l0
                    clear h1 h2 h4 h5
                    go_wp2_with fail
                    refine (abort_k w2 HST2.out).mono ?_
                    rintro e w3 ⟨rfl, hr3⟩
                    have HR3 := Lib.hid (HEND.out _ _ hr3)
                    clear hr3
                    go_wp2
                    go_roundw
                    case rel => exact ⟨k + 1, by omega, by omega, by go_num, by rw [HSTP.out]; exact HR3.out⟩
                    case measure => simp [intOf]; omega
                  · skip
                    have HS1 : Hid (stepT E c = E) := Lib.hid (by unfold stepT; rw [if_pos hfw]; simp [h1, h2, h4, h5])
                    rw [HS1.out] at HSTP
                    go_wp2
                    go_roundw
                    case rel => exact ⟨k + 1, by omega, by omega, by go_num, by rw [HSTP.out]; exact HSAME.out⟩
                    case measure => simp [intOf]; omega
          · have hff : fewB c.p = false := by simpa using hfw
            rw [hff]
            have HS1 : Hid (stepT E c = E) := Lib.hid (by unfold stepT; rw [if_neg hfw])
            rw [HS1.out] at HSTP
            go_wp2
            go_roundw
            case rel => exact ⟨k + 1, by omega, by omega, by go_num, by rw [HSTP.out]; exact HSAME.out⟩
            case measure => simp [intOf]; omega
      · have hk4 : ¬ (k : Int) < 40 := by omega
        obtain rfl : k = 40 := by omega
        go_wp2_with fail
        go_end0
        exact ⟨rfl, fm1, HST.out, HFR.out, HMK.out⟩
    · have hkI : ¬ (k : Int) < (cs.length : Int) := by omega
      obtain rfl : k = cs.length := by omega
      have HDN : Hid (doneT T cs = (cs.take cs.length).foldl stepT T) := Lib.hid (by unfold doneT; rw [List.take_of_length_le hk40, List.take_length])
      go_wp2_with fail
      go_end0
      exact ⟨rfl, fm1, by rw [HDN.out]; exact HST.out, HFR.out, HMK.out⟩
end Go.Proofs.Ytgpeoonpoogniaa


/- A script that came in ([]cambistlaw07.Call), as plain words. -/
namespace Go.Proofs.Ytgpeoonpoogniaa
open Go.ChangeShapes Go.WideShapes Go.ChangeAt Go.RowKit

section
variable {H : Type} {enc : TypeId × Value → H} {W : World}


set_option maxRecDepth 100000 in
theorem open_dcells {n : Nat} {cs : List Value} {x : DataW H × List MemPlace} (h : DataW.trod enc Try.prog W 0 (fun _ => true) true n 49 cs = some x) :
    ∃ (d0 d1 : Int) (xa : Option Addr) (xl xc : Nat) (ya : Option Addr) (yl yc : Nat) (d4 d5 : Int), cs = [.int .i64 d0, .int .i64 d1, .slice xa xl xc, .slice ya yl yc, .int .i64 d4, .int .u8 d5] := by
  obtain ⟨xs, n', rfl, _, hlen, hxl, hf⟩ := DataW.trod_struct Try.underlying49 h
  have e6 : Try.prog.cellsOf 49 = 6 := by kernel_rfl
  have ei : Try.prog.cellsOf 3 = 1 := by kernel_rfl
  have eb : Try.prog.cellsOf 47 = 1 := by kernel_rfl
  have ek : Try.prog.cellsOf 32 = 1 := by kernel_rfl
  have e8 : Try.prog.cellsOf 5 = 1 := by kernel_rfl
  rw [e6] at hlen
  have hxl' : xs.length = 6 := hxl
  match cs, hlen with
  | [c0, c1, c2, c3, c4, c5], _ =>
    have h0 := hf 0 _ rfl
    change DataW.trod enc _ W 0 _ true n' 3 ((List.drop 0 _).take (Try.prog.cellsOf 3)) = _ at h0
    have h1 := hf 1 _ rfl
    change DataW.trod enc _ W 0 _ true n' 3 ((List.drop 1 _).take (Try.prog.cellsOf 3)) = _ at h1
    have h2 := hf 2 _ rfl
    change DataW.trod enc _ W 0 _ true n' 47 ((List.drop 2 _).take (Try.prog.cellsOf 47)) = _ at h2
    have h3 := hf 3 _ rfl
    change DataW.trod enc _ W 0 _ true n' 32 ((List.drop 3 _).take (Try.prog.cellsOf 32)) = _ at h3
    have h4 := hf 4 _ rfl
    change DataW.trod enc _ W 0 _ true n' 3 ((List.drop 4 _).take (Try.prog.cellsOf 3)) = _ at h4
    have h5 := hf 5 _ rfl
    change DataW.trod enc _ W 0 _ true n' 5 ((List.drop 5 _).take (Try.prog.cellsOf 5)) = _ at h5
    rw [ei, List.getElem?_eq_getElem (by omega)] at h0 h1 h4
    rw [eb, List.getElem?_eq_getElem (by omega)] at h2
    rw [ek, List.getElem?_eq_getElem (by omega)] at h3
    rw [e8, List.getElem?_eq_getElem (by omega)] at h5
    simp only [List.drop_zero, List.drop_succ_cons, List.take_succ_cons, List.take_zero] at h0 h1 h2 h3 h4 h5
    obtain ⟨k0, q0, _, _⟩ := DataW.trod_int Try.underlying3 h0
    obtain ⟨k1, q1, _, _⟩ := DataW.trod_int Try.underlying3 h1
    obtain ⟨k4, q4, _, _⟩ := DataW.trod_int Try.underlying3 h4
    obtain ⟨k5, q5, _, _⟩ := DataW.trod_int Try.underlying5 h5
    obtain ⟨v2, z2, q2, s2, _, _⟩ := open_row Try.underlying47 Try.underlying5 e8 h2
    obtain ⟨v3, z3, q3, s3, _, _⟩ := open_row Try.underlying32 Try.underlying3 ei h3
    obtain ⟨xa, xc, rfl, _⟩ := Slc.form s2
    obtain ⟨ya, yc, rfl, _⟩ := Slc.form s3
    simp only [List.cons.injEq, and_true] at q0 q1 q2 q3 q4 q5
    subst q0 q1 q2 q3 q4 q5
    exact ⟨k0, k1, xa, _, xc, ya, _, yc, k4, k5, rfl⟩
set_option maxRecDepth 100000 in
theorem open_pcall {n B off : Nat} {cs : List Value} {x : DataW H × List MemPlace} (h : DataW.trod enc Try.prog W 0 (fun _ => true) true n 51 cs = some x)
    (hc : ∀ j, j < 21 → W.cell? ⟨B, off + j, none⟩ = cs[j]?) : ∃ c : CallS, PCall [] W B off c := by
  obtain ⟨xs, n', rfl, _, hlen, hxl, hf⟩ := DataW.trod_struct Try.underlying51 h
  have e21 : Try.prog.cellsOf 51 = 21 := by kernel_rfl
  have ei : Try.prog.cellsOf 3 = 1 := by kernel_rfl
  have ep : Try.prog.cellsOf 43 = 11 := by kernel_rfl
  have ed : Try.prog.cellsOf 49 = 6 := by kernel_rfl
  rw [e21] at hlen
  have hxl' : xs.length = 6 := hxl
  have h0 := hf 0 _ rfl
  change DataW.trod enc _ W 0 _ true n' 3 ((List.drop 0 _).take (Try.prog.cellsOf 3)) = _ at h0
  have h1 := hf 1 _ rfl
  change DataW.trod enc _ W 0 _ true n' 3 ((List.drop 1 _).take (Try.prog.cellsOf 3)) = _ at h1
  have h2 := hf 2 _ rfl
  change DataW.trod enc _ W 0 _ true n' 3 ((List.drop 2 _).take (Try.prog.cellsOf 3)) = _ at h2
  have h3 := hf 3 _ rfl
  change DataW.trod enc _ W 0 _ true n' 3 ((List.drop 3 _).take (Try.prog.cellsOf 3)) = _ at h3
  have h4 := hf 4 _ rfl
  change DataW.trod enc _ W 0 _ true n' 43 ((List.drop 4 _).take (Try.prog.cellsOf 43)) = _ at h4
  have h5 := hf 5 _ rfl
  change DataW.trod enc _ W 0 _ true n' 49 ((List.drop 15 _).take (Try.prog.cellsOf 49)) = _ at h5
  rw [ei, List.getElem?_eq_getElem (by omega)] at h0 h1 h2 h3
  rw [ep, List.getElem?_eq_getElem (by omega)] at h4
  rw [ed, List.getElem?_eq_getElem (by omega)] at h5
  obtain ⟨k0, q0, _, _⟩ := DataW.trod_int Try.underlying3 h0
  obtain ⟨k1, q1, _, _⟩ := DataW.trod_int Try.underlying3 h1
  obtain ⟨k2, q2, _, _⟩ := DataW.trod_int Try.underlying3 h2
  obtain ⟨k3, q3, _, _⟩ := DataW.trod_int Try.underlying3 h3
  obtain ⟨p, pv, kv, dv, gv, q4, hpi, hwf⟩ := open_page h4
  obtain ⟨d0, d1, xa, xl, xc, ya, yl, yc, d4, d5, q5⟩ := open_dcells h5
  obtain ⟨pa, pc, rfl, _⟩ := Slc.form hpi.pairs
  obtain ⟨ka, kc, rfl, _⟩ := Slc.form hpi.keys
  obtain ⟨da, dc, rfl, _⟩ := Slc.form hpi.kids
  obtain ⟨ga, gc, rfl, _⟩ := Slc.form hpi.pages
  have hcs : cs = [.int .i64 k0, .int .i64 k1, .int .i64 k2, .int .i64 k3] ++ pageCells p (.slice pa p.pairs.length pc) (.slice ka p.keys.length kc) (.slice da p.kids.length dc) (.slice ga p.pages.length gc) ++ [.int .i64 d0, .int .i64 d1, .slice xa xl xc, .slice ya yl yc, .int .i64 d4, .int .u8 d5] := by
    rw [← q4, ← q5]
    have e : cs = cs.take 1 ++ ((cs.drop 1).take 1 ++ ((cs.drop 2).take 1 ++ ((cs.drop 3).take 1 ++ ((cs.drop 4).take 11 ++ (cs.drop 15).take 6)))) := by
      have z : (cs.drop 15).take 6 = cs.drop 15 := List.take_of_length_le (by rw [List.length_drop]; omega)
      rw [z, show cs.drop 15 = (cs.drop 4).drop 11 by rw [List.drop_drop], List.take_append_drop, show cs.drop 4 = (cs.drop 3).drop 1 by rw [List.drop_drop], List.take_append_drop, show cs.drop 3 = (cs.drop 2).drop 1 by rw [List.drop_drop], List.take_append_drop, show cs.drop 2 = (cs.drop 1).drop 1 by rw [List.drop_drop], List.take_append_drop, List.take_append_drop]
    have q0' : cs.take 1 = [.int .i64 k0] := q0
    conv => lhs; rw [e]
    rw [q0', q1, q2, q3]
    simp
  refine ⟨⟨k0, k1, k2, k3, p⟩, pa, pc, ka, kc, da, dc, ga, gc, d0, d1, xa, xl, xc, ya, yl, yc, d4, d5, ⟨fun j u hj => ?_, hpi, by simp, hwf⟩⟩
  have hj21 : j < 21 := (List.getElem?_eq_some_iff.1 hj).1
  rw [hc j hj21, hcs]
  exact hj
set_option maxRecDepth 100000 in
theorem open_pcalls {base : Nat} {v : Value} {d : DataW H} {p : List MemPlace} (hv : Value.okWide Try.prog W .any base 23 v) (h : DataW.Trod enc Try.prog W 0 (fun _ => true) true 23 v d p) :
    ∃ cs : List CallS, Scr7 [] W v cs ∧ cs.length ≤ maxLen := by
  obtain ⟨a, len, cap, rfl⟩ := okWide_slice Try.underlying23 hv
  obtain ⟨fuel, hf⟩ := h
  have e21 : Try.prog.cellsOf 51 = 21 := by kernel_rfl
  haveI : Inhabited CallS := ⟨⟨0, 0, 0, 0, pgZero⟩⟩
  obtain ⟨v', l, hc, hl, hr⟩ := open_rows 21 (by decide) Try.underlying23 e21 (fun B off (c : CallS) => PCall [] W B off c) (fun n B off cs y hy hcell => open_pcall hy hcell) hf
  have hv' : Value.slice a len cap = v' := by simpa [Value.cells] using hc
  rw [hv']
  refine ⟨l, ?_, hl⟩
  rcases hr with ⟨a, cap, h, _, h0⟩ | ⟨B, off, cap, h, _, hq⟩
  · exact .inl ⟨a, cap, h, h0⟩
  · exact .inr ⟨B, off, cap, h, hq⟩
end
end Go.Proofs.Ytgpeoonpoogniaa


/- An operation of a region that draws its order, taken by hand: one whose guard says no; one that yields a value that is told. -/
namespace Go.Proofs.Ytgpeoonpoogniaa
open Go.RowKit Go.MapKept

section
variable {P : Program} {ops : Array Oper} {Q : Exit → Act → World → Prop} {md : Region.Mode} {S : World → Prop}
theorem wpAnyH_skip {i : Nat} {d : Option Tmp} {fuel : Nat} {listed : Array Bool} {a : Act} {w : World} (hd : (ops[i]?).map (fun o => o.dst) = some d)
    (hw : (ops[i]?).map (fun o => Region.wanted o (yielded ops a.tmps)) = some false) (hs : Region.noSelect ops = true) (hf : Region.free md ops listed i = true) (hr : (Region.ready md ops listed).contains i = true)
    (hQ : ∀ c a w, Q (.panic c) (a.put d undef) w → Q (.panic c) a w) (hS : S w) (h : wpAnyH P md ops Q S fuel (listed.setIfInBounds i true) (a.put d undef) w) : wpAnyH P md ops Q S (fuel + 1) listed a w := by
  cases hi : ops[i]? with
  | none => rw [hi] at hd; cases hd
  | some o =>
    rw [hi] at hd hw
    cases hd
    have hw' : Region.wanted o (yielded ops a.tmps) = false := by simpa using hw
    exact wpAnyH_take hi hs hf hr hQ (.inr ⟨hw', rfl⟩) hS h
theorem wpAnyH_do {i : Nat} {d : Option Tmp} {fuel : Nat} {listed : Array Bool} {a : Act} {w : World} (v : Value) (hd : (ops[i]?).map (fun o => o.dst) = some d)
    (hw : (ops[i]?).map (fun o => Region.wanted o (yielded ops a.tmps)) = some true) (hs : Region.noSelect ops = true) (hf : Region.free md ops listed i = true) (hr : (Region.ready md ops listed).contains i = true)
    (hQ : ∀ c a w, Q (.panic c) (a.put d v) w → Q (.panic c) a w) (hy : ∀ w o, S w → some o = ops[i]? → (execOp a.eval o).run P w = .ok (.value v) w) (hS : S w)
    (h : wpAnyH P md ops Q S fuel (listed.setIfInBounds i true) (a.put d v) w) : wpAnyH P md ops Q S (fuel + 1) listed a w := by
  cases hi : ops[i]? with
  | none => rw [hi] at hd; cases hd
  | some o =>
    rw [hi] at hd hw hy
    cases hd
    have hw' : Region.wanted o (yielded ops a.tmps) = true := by simpa using hw
    exact wpAnyH_take hi hs hf hr hQ (.inl ⟨hw', fun w hw => hy w o hw rfl⟩) hS h
theorem wpAnyH_call {i : Nat} {fuel : Nat} {listed : Array Bool} {a : Act} {w : World} (hr : Region.ready md ops listed = [i])
    (h : ∀ K' : Act → World → Prop, Shut (∀ a w, S w → (S w → wpAnyH P md ops Q S fuel (listed.setIfInBounds i true) a w) → K' a w) → ∀ o, some o = ops[i]? → if Region.wanted o (yielded ops a.tmps) = true then Oper.wp P o a w K' Q else K' (a.put o.dst undef) w) :
    wpAnyH P md ops Q S (fuel + 1) listed a w := by
  cases hi : ops[i]? with
  | none =>
    have hm : i ∈ Region.ready md ops listed := by rw [hr]; simp
    obtain ⟨_, oj, hoj, _⟩ := mem_ready.1 hm
    rw [hi] at hoj; cases hoj
  | some o => exact wpAnyH_ready hr (by simp) (AllReadyH.cons hi (fun K' hK => h K' hK o hi.symm) AllReadyH.nil)
end
end Go.Proofs.Ytgpeoonpoogniaa


/- What StoreTakes' loop holds: a store, a row of marks beside it, and the pool that was there at first. -/
namespace Go.Proofs.Ytgpeoonpoogniaa
open Go.RowKit Go.MapKept

def rowT (f : Int → Bool) : Array Value := ((List.range 61).map fun (j : Nat) => Value.bool (f j)).toArray
theorem rowT_get (f : Int → Bool) {m : Nat} (hm : m < 61) : (rowT f)[m]? = some (.bool (f m)) := by
  unfold rowT
  rw [List.getElem?_toArray, List.getElem?_map, List.getElem?_range hm]
  rfl
theorem rowT_set (f : Int → Bool) {m : Nat} (hm : m < 61) : (rowT f).setIfInBounds m (.bool true) = rowT (fun k => decide (k = (m : Int)) || f k) := by
  apply Array.ext'
  unfold rowT
  simp only [List.setIfInBounds_toArray, List.toList_toArray]
  apply List.ext_getElem?
  intro i
  rw [List.getElem?_set]
  by_cases hi : i < 61
  · rw [List.getElem?_map, List.getElem?_map, List.getElem?_range hi]
    by_cases hmi : m = i
    · subst hmi; simp [hm]
    · rw [if_neg hmi]
      simp
      intro h
      exact absurd (by omega) hmi
  · have h1 : (List.map (fun (j : Nat) => Value.bool (f j)) (List.range 61))[i]? = none := List.getElem?_eq_none (by simp; omega)
    have h2 : (List.map (fun (j : Nat) => Value.bool (decide ((j : Int) = (m : Int)) || f j)) (List.range 61))[i]? = none := List.getElem?_eq_none (by simp; omega)
    rw [if_neg (by omega), h1, h2]
theorem Try.infoB : (Try.prog.info? 4).map (fun i => (i.zero, i.size, i.bytes)) = some (some (.bool false), 1, 1) := by kernel_rfl
theorem run_mkB61 (w : World) : (Instr.makeSlice 36 (.int .i64 61) (.int .i64 61)).run Try.prog w = .ok (.slice (some ⟨w.heap.size, 0, none⟩) 61 61) (w.alloc (.cells (rowT fun _ => false) 4)) := by
  obtain ⟨i0, hi, hz0, hz1, hz2⟩ := info_parts Try.infoB
  have h := run_make (P := Try.prog) w 36 4 i0 (.bool false) Try.underlying36 hi hz0 .i64 .i64 61 61 (by omega) (by omega) (by rw [hz2]; omega) (by omega)
  have e : madeCells (Value.bool false).cells (Int.toNat 61 * i0.size) = rowT fun _ => false := by
    rw [hz1]
    apply Array.ext'
    rw [show Int.toNat 61 * 1 = 61 from rfl]
    exact toList_madeCells_one _ _
  rw [e] at h
  exact h

theorem PoolAt.more {S S' : List Nat} {w : World} {v : Value} {p : PoolD} (h : PoolAt S w v p) (hs : ∀ x, x ∈ S' → x ∈ S ∨ w.heap.size ≤ x) : PoolAt S' w v p := by
  obtain ⟨fv, lv, rfl, h1, h2⟩ := h
  exact ⟨fv, lv, rfl, Slc.more h1 hs, Slc.more h2 hs⟩
/-- What StoreTakes' loop holds. -/
structure TkpAt (W wr : World) (sb b ml mc fm q g : Nat) (E : StD) (B : PoolD) (f : Int → Bool) (fa la : Option Addr) (fc lc : Nat) : Prop where
  mine : Mine W wr sb b ml mc fm E
  row : wr.heap[q]? = some (.cells (rowT f) 4 (0, 0))
  pool : wr.heap[g]? = some (.cells #[.int .i64 B.high, .slice fa B.free.length fc, .slice la B.limbo.length lc] 34 (0, 0))
  held : PoolAt [sb, fm, b, ml, mc, q] wr (.agg #[.int .i64 B.high, .slice fa B.free.length fc, .slice la B.limbo.length lc]) B
  ap : StoAp wr sb [q]
  neq : q ∉ [sb, fm, b, ml, mc]
  neg : g ∉ [sb, fm, b, ml, mc, q]
  lo : W.heap.size ≤ q
theorem TkpAt.kept {W wr w' : World} {sb b ml mc fm q g : Nat} {E : StD} {B : PoolD} {f : Int → Bool} {fa la : Option Addr} {fc lc : Nat} (h : TkpAt W wr sb b ml mc fm q g E B f fa la fc lc) (hf : Fr [] wr w') :
    TkpAt W w' sb b ml mc fm q g E B f fa la fc lc :=
  ⟨h.mine.kept hf, hf.heap h.row (by simp), hf.heap h.pool (by simp), h.held.kept hf.nil, ApK.ofFr hf h.mine.sto.lt.1 (by simp) _ (fun x hx => by rw [List.mem_singleton.1 hx]; exact lt_of_heap h.row) h.ap, h.neq, h.neg, h.lo⟩
theorem TkpAt.next {W wr w' : World} {sb b ml mc fm q g : Nat} {E T' : StD} {B : PoolD} {f : Int → Bool} {fa la : Option Addr} {fc lc : Nat} (h : TkpAt W wr sb b ml mc fm q g E B f fa la fc lc) (hr : StoR wr sb b ml mc fm T' w') :
    ∃ fm', TkpAt W w' sb b ml mc fm' q g T' B f fa la fc lc := by
  have hq := lt_of_heap h.row
  have hg := lt_of_heap h.pool
  obtain ⟨fm', hs, hf, hm, hk⟩ := hr
  have hz := h.mine.fr.size
  have hl := h.mine.lo
  have hne := h.neq
  have hng := h.neg
  simp only [List.mem_cons, List.not_mem_nil, or_false, not_or] at hne hng
  refine ⟨fm', ⟨hs, h.mine.fr.andThen hf (fun x hx => .inr ?_), hl.1, ?_, hl.2.2⟩, hf.heap h.row h.neq, hf.heap h.pool (by simp; omega), ?_, hk _ (fun x hx => by rw [List.mem_singleton.1 hx]; exact hq) h.ap, ?_, ?_, h.lo⟩
  · simp only [List.mem_cons, List.not_mem_nil, or_false] at hx
    rcases hx with h | h | h | h | h <;> omega
  · rcases hm with hm | hm <;> omega
  · refine ((h.held.more (S' := [fm', sb, fm, b, ml, mc, q]) (fun x hx => ?_)).kept (hf.mono ?_)).mono ?_
    · rcases List.mem_cons.1 hx with hx | hx
      · rcases hm with hm | hm
        · exact .inl (by rw [hx, hm]; simp)
        · exact .inr (by rw [hx]; exact hm)
      · exact .inl hx
    · intro x hx _
      simp only [List.mem_cons, List.not_mem_nil, or_false] at hx ⊢
      rcases hx with h | h | h | h | h <;> simp [h]
    · intro x hx
      simp only [List.mem_cons, List.not_mem_nil, or_false] at hx ⊢
      rcases hx with h | h | h | h | h | h <;> simp [h]
  · simp only [List.mem_cons, List.not_mem_nil, or_false, not_or]
    rcases hm with hm | hm <;> omega
  · simp only [List.mem_cons, List.not_mem_nil, or_false, not_or]
    rcases hm with hm | hm <;> omega
/-- A mark is set. -/
theorem TkpAt.mark {W wr : World} {sb b ml mc fm q g : Nat} {E : StD} {B : PoolD} {f : Int → Bool} {fa la : Option Addr} {fc lc : Nat} (h : TkpAt W wr sb b ml mc fm q g E B f fa la fc lc) {m : Nat} (hm : m < 61) :
    TkpAt W (wr.setCell ⟨q, m, none⟩ (.bool true)) sb b ml mc fm q g E B (fun k => decide (k = (m : Int)) || f k) fa la fc lc := by
  have hf : Fr [q] wr (wr.setCell ⟨q, m, none⟩ (.bool true)) := Fr.setCell wr ⟨q, m, none⟩ (.bool true)
  have hne := h.neq
  have hng := h.neg
  simp only [List.mem_cons, List.not_mem_nil, or_false, not_or] at hne hng
  have hnb : NoByte wr q := fun i u he => by
    rw [blk_cell h.row] at he
    unfold rowT at he
    rw [List.getElem?_toArray] at he
    have hm := List.mem_of_getElem? he
    simp [byteV] at hm
  have hs : StoAt (wr.setCell ⟨q, m, none⟩ (.bool true)) sb b ml mc fm E := h.mine.sto.aside h.ap hf (h.mine.sto.dev.apart hf (fun x hx => by rw [List.mem_singleton.1 hx]; exact hnb) (by simp; omega) (by simp; omega) (by simp; omega)) (by simp; omega) (by simp; omega)
  refine ⟨⟨hs, h.mine.fr.andThen hf (fun x hx => .inr (by rw [List.mem_singleton.1 hx]; exact h.lo)), h.mine.lo⟩, ?_, hf.heap h.pool (by simp; omega), ?_, ?_, h.neq, h.neg, h.lo⟩
  · rw [← rowT_set f hm]
    exact blk_set h.row _ _
  · exact h.held.kept (hf.mono (fun x hx _ => by rw [List.mem_singleton.1 hx]; simp))
  · exact ApK.ofFr hf h.mine.sto.lt.1 (by simp; omega) _ (fun x hx => by rw [List.mem_singleton.1 hx]; exact lt_of_heap h.row) h.ap
end Go.Proofs.Ytgpeoonpoogniaa


/- What StoreKeeps holds beside its store; its plain law. -/
namespace Go.Proofs.Ytgpeoonpoogniaa
open Go.RowKit Go.MapKept

/-- Nothing that the last commit has is lost with the cache. -/
theorem keeps_holds {T E : StD} (hL : T.Live) (hc : T.clean) (hs : T.Step E) : Holds (restartD E.dev [] (-1) 0) T.super T.lists T.base := by
  refine hL.holds.step ((restart_n _ _ _ _).1.trans hs.n) ((restart_n _ _ _ _).2.1.trans hL.calm.off.symm) (fun j hj => ?_)
  have h := hs.bytes j hj
  rw [restart_none [] (-1) 0 (h.2.trans (hc.cache j hj))]
  exact h.1
def strOf (D : Dv) (j : Nat) : ByteArray := ⟨(D.bytes ((j : Int) + 2)).toArray⟩
def heldL (D : Dv) (n : Nat) : List ByteArray := (List.range n).map (strOf D)
theorem heldL_length (D : Dv) (n : Nat) : (heldL D n).length = n := by simp [heldL]
theorem heldL_succ (D : Dv) (n : Nat) : heldL D (n + 1) = heldL D n ++ [strOf D n] := by simp [heldL, List.range_succ]
theorem heldL_get (D : Dv) {n k : Nat} (h : k < n) : (heldL D n)[k]? = some (strOf D k) := by
  unfold heldL
  rw [List.getElem?_map, List.getElem?_range h]; rfl
theorem Slc.zeroAny {S S' : List Nat} {w w' : World} {v : Value} (h : Slc S w v 0 []) : Slc S' w' v 0 [] := by
  rcases h with h | ⟨B, off, cap, hv, hc, _, _⟩
  · exact .inl h
  · exact .inr ⟨B, off, cap, hv, hc, .inl rfl, by intro i v hi; simp at hi⟩
/-- A page that holds no list is one in every world. -/
theorem PageIn.bareAny {S S' : List Nat} {w w' : World} {p : PageD} {pv kv dv gv : Value} (h : PageIn S w p pv kv dv gv) (hb : p.bare) : PageIn S' w' p pv kv dv gv := by
  have h1 := h.pairs
  have h2 := h.keys
  have h3 := h.kids
  have h4 := h.pages
  rw [hb.pairs] at h1
  rw [hb.keys] at h2
  rw [hb.kids] at h3
  rw [hb.pages] at h4
  refine ⟨?_, ?_, ?_, ?_⟩
  · rw [hb.pairs]; exact Slc.zeroAny h1
  · rw [hb.keys]; exact Slc.zeroAny h2
  · rw [hb.kids]; exact Slc.zeroAny h3
  · rw [hb.pages]; exact Slc.zeroAny h4
/-- A row of texts of the caller's own. -/
def OwnS (w w' : World) (v : Value) (l : List ByteArray) : Prop := w'.ownsRow w.heap.size 9 1 v l.length (l.map Value.string)
theorem OwnS.txts {w w' : World} {v : Value} {l : List ByteArray} (h : OwnS w w' v l) (S : List Nat) (hS : ∀ x, x ∈ S → x < w.heap.size) : Txts S w' v l := Slc.ofOwns (S := S) h hS
theorem OwnS.lt {w w' : World} {v : Value} {l : List ByteArray} (h : OwnS w w' v l) : ∀ g, v.ownBlock = some g → w.heap.size ≤ g ∧ g < w'.heap.size := by
  intro g hg
  rcases h.2 with ⟨rfl, _⟩ | ⟨g', cap, cur, rfl, hb, hgg, _⟩
  · cases hg
  · cases hg
    exact ⟨hb, lt_of_heap hgg⟩
theorem OwnS.form {w w' : World} {v : Value} {l : List ByteArray} (h : OwnS w w' v l) : ∃ a c, v = .slice a l.length c ∧ l.length ≤ c := Slc.form (h.txts [] (by simp))
theorem ownS_one {w0 wr : World} {v : Value} {l : List ByteArray} (x : ByteArray) (h : OwnS w0 wr v l) (hl : l.length ≤ 1000000) (hs : w0.heap.size ≤ wr.heap.size) (ty : TypeId) :
    ∃ v' w', (Builtin.append_ #[40, 40] ty #[v, .slice (some ⟨wr.heap.size, 0, none⟩) 1 1]).run Try.prog (wr.alloc (.cells #[.string x] 9)) = .ok v' w' ∧ OwnS w0 w' v' (l ++ [x]) ∧ Fr v.ownBlock.toList (wr.alloc (.cells #[.string x] 9)) w' := by
  obtain ⟨i0, hi0, hz0, hz1, hz2⟩ := info_parts Try.infoStr
  obtain ⟨v', w', hr, ho, hg, _, hw⟩ := run_append_own_at (P := Try.prog) (wr.alloc (.cells #[.string x] 9)) w0.heap.size 40 ty 9 i0 (.string ByteArray.empty) 1 16 Try.underlying40 hi0 hz0 hz1 hz2 rfl (by decide) v l.length (l.map Value.string)
    (ownsKept h (Fr.alloc1 wr (.cells #[.string x] 9)) (by simp)) ⟨wr.heap.size, 0, none⟩ 1 1 [Value.string x] rfl (fun j u hj => by
      match j, hj with
      | 0, hj =>
        rw [addr_add, blk_cell (blk_new wr (.cells #[.string x] 9))]
        exact hj) (fun u hu => by simp at hu; subst hu; rfl) (by unfold maxLen; omega) (by omega) (by simp; omega)
  refine ⟨v', w', hr, ?_, Fr.grown hg⟩
  unfold OwnS
  rw [List.length_append, List.map_append]
  exact ho
theorem OwnS.after {w w1 w' : World} {v : Value} {l : List ByteArray} (h : OwnS w w1 v l) (hf0 : Fr [] w w1) {w2 : World} (hf1 : Fr [] w1 w2) (hf : Fr v.ownBlock.toList w2 w') : Fr [] w w' :=
  (hf0.trans hf1).andThen hf (fun y hy => .inr (by
    cases hb : v.ownBlock with
    | none => rw [hb] at hy; cases hy
    | some g => rw [hb, Option.toList_some, List.mem_singleton] at hy; rw [hy]; exact (h.lt g hb).1))

/-- What StoreKeeps holds. -/
structure KepAt (W wr : World) (sb b ml mc fm u g : Nat) (E : StD) (P : PageD) (B : PoolD) (ls : List Int) (hs : List ByteArray) (cs : List CallS) (za zb zd zf : Option Addr) (zc zk ze zh : Nat) (fa la : Option Addr) (fc lc : Nat) (lv hv mv : Value) : Prop where
  mine : Mine W wr sb b ml mc fm E
  sup : wr.heap[u]? = some (.cells (pageCells P (.slice za 0 zc) (.slice zb 0 zk) (.slice zd 0 ze) (.slice zf 0 zh)).toArray 43 (0, 0))
  pool : wr.heap[g]? = some (.cells #[.int .i64 B.high, .slice fa B.free.length fc, .slice la B.limbo.length lc] 34 (0, 0))
  held : PoolAt [sb, fm, b, ml, mc] wr (.agg #[.int .i64 B.high, .slice fa B.free.length fc, .slice la B.limbo.length lc]) B
  lists : Ints [sb, fm, b, ml, mc] wr lv ls
  txts : Txts [sb, fm, b, ml, mc] wr hv hs
  more : Scr7 [sb, fm, b, ml, mc] wr mv cs
  neu : u ∉ [sb, fm, b, ml, mc]
  neg : g ∉ [sb, fm, b, ml, mc]
theorem KepAt.kept {W wr w' : World} {sb b ml mc fm u g : Nat} {E : StD} {P : PageD} {B : PoolD} {ls : List Int} {hs : List ByteArray} {cs : List CallS} {za zb zd zf : Option Addr} {zc zk ze zh : Nat} {fa la : Option Addr} {fc lc : Nat} {lv hv mv : Value}
    (h : KepAt W wr sb b ml mc fm u g E P B ls hs cs za zb zd zf zc zk ze zh fa la fc lc lv hv mv) (hf : Fr [] wr w') : KepAt W w' sb b ml mc fm u g E P B ls hs cs za zb zd zf zc zk ze zh fa la fc lc lv hv mv :=
  ⟨h.mine.kept hf, hf.heap h.sup (by simp), hf.heap h.pool (by simp), h.held.kept hf.nil, h.lists.kept hf.nil, h.txts.kept hf.nil, h.more.kept hf.nil, h.neu, h.neg⟩
theorem KepAt.next {W wr w' : World} {sb b ml mc fm u g : Nat} {E T' : StD} {P : PageD} {B : PoolD} {ls : List Int} {hs : List ByteArray} {cs : List CallS} {za zb zd zf : Option Addr} {zc zk ze zh : Nat} {fa la : Option Addr} {fc lc : Nat} {lv hv mv : Value}
    (h : KepAt W wr sb b ml mc fm u g E P B ls hs cs za zb zd zf zc zk ze zh fa la fc lc lv hv mv) (hr : StoR wr sb b ml mc fm T' w') : ∃ fm', KepAt W w' sb b ml mc fm' u g T' P B ls hs cs za zb zd zf zc zk ze zh fa la fc lc lv hv mv := by
  have hu := lt_of_heap h.sup
  have hg := lt_of_heap h.pool
  obtain ⟨fm', hs, hf, hm, hk⟩ := hr
  have hz := h.mine.fr.size
  have hl := h.mine.lo
  have hneu := h.neu
  have hneg := h.neg
  have hmore : ∀ x, x ∈ [fm', sb, fm, b, ml, mc] → x ∈ [sb, fm, b, ml, mc] ∨ wr.heap.size ≤ x := fun x hx => by
    rcases List.mem_cons.1 hx with hx | hx
    · rcases hm with hm | hm
      · exact .inl (by rw [hx, hm]; simp)
      · exact .inr (by rw [hx]; exact hm)
    · exact .inl hx
  have hfr : Fr [fm', sb, fm, b, ml, mc] wr w' := hf.mono (fun x hx _ => List.mem_cons_of_mem _ hx)
  have hless : ∀ x, x ∈ [sb, fm', b, ml, mc] → x ∈ [fm', sb, fm, b, ml, mc] := fun x hx => by
    simp only [List.mem_cons, List.not_mem_nil, or_false] at hx ⊢
    rcases hx with h | h | h | h | h <;> simp [h]
  have hmore' : ∀ x, x ∈ [sb, fm', b, ml, mc] → x ∈ [fm', sb, fm, b, ml, mc] ∨ w'.heap.size ≤ x := fun x hx => .inl (hless x hx)
  simp only [List.mem_cons, List.not_mem_nil, or_false, not_or] at hneu hneg
  refine ⟨fm', ⟨hs, h.mine.fr.andThen hf (fun x hx => .inr ?_), hl.1, ?_, hl.2.2⟩, hf.heap h.sup (by simp; omega), hf.heap h.pool (by simp; omega), ((h.held.more hmore).kept hfr).mono hless, ((Slc.more h.lists hmore).kept hfr).mono hless, ((Slc.more h.txts hmore).kept hfr).mono hless, ((h.more.more hmore).kept hfr).more hmore', ?_, ?_⟩
  · simp only [List.mem_cons, List.not_mem_nil, or_false] at hx
    rcases hx with h | h | h | h | h <;> omega
  · rcases hm with hm | hm <;> omega
  · simp only [List.mem_cons, List.not_mem_nil, or_false, not_or]
    rcases hm with hm | hm <;> omega
  · simp only [List.mem_cons, List.not_mem_nil, or_false, not_or]
    rcases hm with hm | hm <;> omega
end Go.Proofs.Ytgpeoonpoogniaa

