/- a part. -/
import Derived.Test.YtgpohemcfgepeaaGreatGA
import Derived.Test.YtgpohemcfgepeaaGreatT1
import Derived.Test.YtgpohemcfgepeaaGreatT4
import Derived.Test.YtgpohemcfgepeaaGreatG4
import Derived.Test.YtgpohemcfgepeaaGreatG3
import Derived.Defers
import Derived.Deep.RegionHeld3
namespace Go.Proofs.YtgpohemcfgepeaaGreat
open Go.RowKit Go.MapKept
def trL (sb : Nat) (r d c : Int) : Array Value := #[.pointer (some ⟨sb, 0, none⟩), .int .i64 r, .int .i64 d, .int .i64 c]
structure TrAt (w : World) (tb sb b ml mc fm : Nat) (t : TrD) : Prop where
  blk : w.heap[tb]? = some (.cells (trL sb t.root t.depth t.count) 83 (0, 0))
  sto : StoAt w sb b ml mc fm t.st
  ap : StoAp w sb [tb]
theorem TrAt.lt {w : World} {tb sb b ml mc fm : Nat} {t : TrD} (h : TrAt w tb sb b ml mc fm t) : tb < w.heap.size := lt_of_heap h.blk
theorem noByte_tr {w : World} {tb sb : Nat} {r d c : Int} {T : TypeId} (h : w.heap[tb]? = some (.cells (trL sb r d c) T (0, 0))) : NoByte w tb := fun i u he => by
  rw [blk_cell h] at he
  unfold trL at he
  match i with
  | 0 => cases he
  | 1 => cases he
  | 2 => cases he
  | 3 => cases he
  | i + 4 => cases he
theorem tr_ne {w : World} {tb sb b ml mc fm : Nat} {r d c : Int} {T : StD} (h : w.heap[tb]? = some (.cells (trL sb r d c) 83 (0, 0))) (hs : StoAt w sb b ml mc fm T) : tb ∉ [sb, fm, b, ml, mc] := by
  obtain ⟨_, _, _, _, _, _, _, _, _, hb, _⟩ := hs.blk
  obtain ⟨f, hm, _⟩ := hs.dev.lastM
  obtain ⟨f', hm', _⟩ := hs.dev.cacheM
  simp only [List.mem_cons, List.not_mem_nil, or_false, not_or]
  refine ⟨?_, hs.map.notCells h, ?_, hm.notCells h, hm'.notCells h⟩
  · rintro rfl
    rw [h] at hb
    injection hb with hb
    injection hb with _ ht _
    exact absurd ht (by decide)
  · rintro rfl
    have h2 := hs.dev.blk
    rw [h] at h2
    injection h2 with h2
    injection h2 with _ ht _
    exact absurd ht (by decide)
theorem TrAt.ne {w : World} {tb sb b ml mc fm : Nat} {t : TrD} (h : TrAt w tb sb b ml mc fm t) : tb ∉ [sb, fm, b, ml, mc] := tr_ne h.blk h.sto
theorem StoAt.apNew {w : World} {sb b ml mc fm x : Nat} {T : StD} (h : StoAt w sb b ml mc fm T) (hx : w.heap.size ≤ x) : StoAp w sb [x] := fun i B o n c hc h0 => by
  obtain ⟨pv, kv, dv, gv, lv, bf, bl, pf, pl, hb, hv⟩ := h.blk
  have hv2 := hv.more (S' := [x]) (fun y hy => .inr (by simp at hy; omega))
  have key : ∀ {m : Nat} {cs : List Value}, Slc [x] w (.slice (some ⟨B, o, none⟩) n c) m cs → (cs = [] → m = 0) → B ∉ [x] := fun hS hz => by
    rcases hS with ⟨a, k, e, _⟩ | ⟨B', o', k, e, _, hs, _⟩
    · cases e; exact absurd rfl h0
    · cases e
      rcases hs with hs | hs
      · exact absurd (hz hs) h0
      · exact hs
  have zi : ∀ {α : Type} {f : α → Value} {l : List α}, l.map f = [] → l.length = 0 := fun h => by simpa using congrArg List.length h
  have zp : ∀ {l : List PairD}, prCells l = [] → l.length = 0 := fun {l} h => by cases l with | nil => rfl | cons y l => simp [prCells] at h
  rw [blk_cell hb, List.getElem?_toArray] at hc
  unfold stL at hc
  match i with
  | 0 => cases hc
  | 1 => cases hc
  | 2 => cases hc; exact key hv2.super.pairs zp
  | 3 => cases hc; exact key hv2.super.keys zi
  | 4 => cases hc; exact key hv2.super.kids zi
  | 5 => cases hc; exact key hv2.super.pages zi
  | 6 => cases hc
  | 7 => cases hc
  | 8 => cases hc
  | 9 => cases hc
  | 10 => cases hc
  | 11 => cases hc
  | 12 => cases hc; exact key hv2.lists zi
  | 13 => cases hc
  | 14 => cases hc; exact key hv2.bfree zi
  | 15 => cases hc; exact key hv2.blimbo zi
  | 16 => cases hc
  | 17 => cases hc; exact key hv2.pfree zi
  | 18 => cases hc; exact key hv2.plimbo zi
  | 19 => cases hc
  | i + 20 => cases hc
theorem StoAp.kept {R S : List Nat} {w w' : World} {sb : Nat} (h : StoAp w sb S) (hf : Fr R w w') (hl : sb < w.heap.size) (hn : sb ∉ R) : StoAp w' sb S := fun i B o n c hc h0 =>
  h i B o n c (by rw [hf.cell (a := ⟨sb, i, none⟩) hl hn] at hc; exact hc) h0
theorem StoAp.and {w : World} {sb : Nat} {S R : List Nat} (h : StoAp w sb S) (k : StoAp w sb R) : StoAp w sb (S ++ R) := fun i B o n c hc h0 hm => by
  rcases List.mem_append.1 hm with hm | hm
  · exact h i B o n c hc h0 hm
  · exact k i B o n c hc h0 hm
theorem StoAp.mono {w : World} {sb : Nat} {S R : List Nat} (h : StoAp w sb S) (hs : ∀ x, x ∈ R → x ∈ S) : StoAp w sb R := fun i B o n c hc h0 hm => h i B o n c hc h0 (hs _ hm)
theorem StoAt.beside {R : List Nat} {w w' : World} {sb b ml mc fm : Nat} {T : StD} (h : StoAt w sb b ml mc fm T) (ha : StoAp w sb R) (hf : Fr R w w') (hn : ∀ x ∈ R, NoByte w x) (hr : ∀ x ∈ R, x ∉ [sb, fm, b, ml, mc]) : StoAt w' sb b ml mc fm T := by
  have hm : ∀ y ∈ [sb, fm, b, ml, mc], y ∉ R := fun y hy hR => hr y hR hy
  exact h.aside ha hf (h.dev.apart hf hn (hm b (by simp)) (hm ml (by simp)) (hm mc (by simp))) (hm sb (by simp)) (hm fm (by simp))
theorem TrAt.kept {w w' : World} {tb sb b ml mc fm : Nat} {t : TrD} (h : TrAt w tb sb b ml mc fm t) (hf : Fr [] w w') : TrAt w' tb sb b ml mc fm t :=
  ⟨hf.heap h.blk (by simp), h.sto.kept hf, h.ap.kept hf h.sto.lt.1 (by simp)⟩
def TrR (w : World) (tb sb b ml mc fm : Nat) (t' : TrD) (w' : World) : Prop := ∃ fm', TrAt w' tb sb b ml mc fm' t' ∧ Fr [tb, sb, fm, b, ml, mc] w w' ∧ (fm' = fm ∨ w.heap.size ≤ fm') ∧ ApK w sb w'
theorem TrR.ofFr {w w' : World} {tb sb b ml mc fm : Nat} {t : TrD} (h : TrAt w tb sb b ml mc fm t) (hf : Fr [] w w') : TrR w tb sb b ml mc fm t w' :=
  ⟨fm, h.kept hf, hf.nil, .inl rfl, .ofFr hf h.sto.lt.1 (by simp)⟩
theorem TrAt.stored {w w' : World} {tb sb b ml mc fm : Nat} {t : TrD} {T : StD} (h : TrAt w tb sb b ml mc fm t) (hs : StoR w sb b ml mc fm T w') : TrR w tb sb b ml mc fm { t with st := T } w' := by
  obtain ⟨fm', h1, h2, h3, h4⟩ := hs
  exact ⟨fm', ⟨h2.heap h.blk h.ne, h1, h4 [tb] (by intro x hx; simp at hx; subst hx; exact h.lt) h.ap⟩, h2.mono (fun x hx _ => List.mem_cons_of_mem _ hx), h3, h4⟩
theorem TrAt.written {w w' : World} {tb sb b ml mc fm : Nat} {t : TrD} {r d c : Int} (h : TrAt w tb sb b ml mc fm t) (hf : Fr [tb] w w') (hb : w'.heap[tb]? = some (.cells (trL sb r d c) 83 (0, 0))) : TrR w tb sb b ml mc fm ⟨t.st, r, d, c⟩ w' := by
  have hne := h.ne
  have hsb : sb ∉ [tb] := fun e => hne (by simp at e; simp [e])
  exact ⟨fm, ⟨hb, h.sto.beside h.ap hf (by intro x hx; simp at hx; subst hx; exact noByte_tr h.blk) (by intro x hx; simp at hx; subst hx; exact hne), h.ap.kept hf h.sto.lt.1 hsb⟩, hf.mono (by simp), .inl rfl, .ofFr hf h.sto.lt.1 hsb⟩
theorem TrR.trans {w w1 w2 : World} {tb sb b ml mc fm fm1 : Nat} {t : TrD} (hf : Fr [tb, sb, fm, b, ml, mc] w w1) (hm : (fm1 = fm ∨ w.heap.size ≤ fm1) ∧ ApK w sb w1) (h : TrR w1 tb sb b ml mc fm1 t w2) : TrR w tb sb b ml mc fm t w2 := by
  obtain ⟨fm2, h1, h2, h3, h4⟩ := h
  refine ⟨fm2, h1, hf.andThen h2 (fun x hx => ?_), ?_, hm.2.trans h4 hf.size⟩
  · simp only [List.mem_cons, List.not_mem_nil, or_false] at hx ⊢
    rcases hm.1 with e | e
    · subst e; exact .inl hx
    · rcases hx with h | h | h | h | h | h
      · simp [h]
      · simp [h]
      · right; omega
      · simp [h]
      · simp [h]
      · simp [h]
  · have := hf.size
    rcases h3 with e | e
    · rcases hm.1 with e1 | e1
      · left; omega
      · right; omega
    · right; omega
end Go.Proofs.YtgpohemcfgepeaaGreat

namespace Go.Proofs.YtgpohemcfgepeaaGreat
open Go.RowKit Go.MapKept
set_option maxRecDepth 100000 in
theorem kid1_k {bp bk c : Nat} {ks : List ByteArray} {ka : Option Addr} {kc : Nat} {key : ByteArray} (i : Nat) (w : World) (hi : i < ks.length) (hlt : ∀ j (hj : j < ks.length), (!strLe ks[j] key) = decide (c ≤ j)) (hn : ks.length ≤ 1048576)
    (hb : w.cell? ⟨bp, 2, none⟩ = some (.slice ka ks.length kc)) (hk : w.cell? ⟨bk, 0, none⟩ = some (.string key)) (hT : Txts [] w (.slice ka ks.length kc) ks) :
    Calls Tryz.prog 108 (#[.int .i64 i] ++ #[.pointer (some ⟨bp, 0, none⟩), .pointer (some ⟨bk, 0, none⟩)]) w fun e w' => e = .returned (.bool (decide (c ≤ i))) ∧ Fr [] w w' := by
  obtain ⟨B, off, rfl⟩ : ∃ B off, ka = some ⟨B, off, none⟩ := by
    rcases hT with ⟨_, _, _, h0, _⟩ | ⟨B, off, cap, h, _⟩
    · omega
    · cases h; exact ⟨B, off, rfl⟩
  have hc := hT.at hi
  have hiI : (i : Int) < (ks.length : Int) := by omega
  have hnI : (ks.length : Int) ≤ 1048576 := by omega
  have hgt : (!(Op.bytesLess ks[i].toList key.toList || ks[i].toList == key.toList)) = decide (c ≤ i) := hlt i hi
  have HG := Lib.hid hgt
  clear hT hlt hgt
  generalize ks[i] = kx at *
  generalize ks.length = n at *
  show Calls Tryz.prog 108 #[.int .i64 i, .pointer (some ⟨bp, 0, none⟩), .pointer (some ⟨bk, 0, none⟩)] w _
  go_enter Tryz.func108, Tryz.ntmps108
  go_wp2_with fail
  go_quiet (fail)
  go_wp2_with fail
  go_ret
  exact ⟨by rw [← HG.out, Bool.not_or]; rfl, frN _ _⟩
theorem enter_kid : ∀ (args : Array Value) (w : World), (callFunc 108 args).run Tryz.prog w = .ok (.enter 108 args) w := fun args w => enter_of Tryz.func108 (by kernel_rfl) (by kernel_rfl) args w
set_option maxRecDepth 100000 in
theorem kid_k {S : List Nat} {p : PageD} {pv kv dv gv : Value} {c : Nat} (key : ByteArray) (w : World) (hp : PageIn S w p pv kv dv gv) (hn : p.keys.length ≤ 1048576) (hc : c ≤ p.keys.length) (hlt : ∀ j (hj : j < p.keys.length), (!strLe p.keys[j] key) = decide (c ≤ j)) :
    Calls Tryz.prog 64 #[.agg (pageCells p pv kv dv gv).toArray, .string key] w fun e w' => e = .returned (.int .i64 c) ∧ Fr [] w w' := by
  obtain ⟨ka, kc, rfl, _⟩ := Slc.form hp.keys
  have HT := Lib.hid (hp.keys.mono (S' := []) (by simp))
  have HLT := Lib.hid hlt
  have hnI : (p.keys.length : Int) ≤ 1048576 := by omega
  have hmf : ∀ (fn : Fn) (first cap : Array Value) (w : World), (Instr.makeFunc fn first cap).run Tryz.prog w = .ok (.func fn first cap) w := fun _ _ _ _ => rfl
  clear hp hlt
  unfold pageCells
  generalize p.keys = ks at *
  generalize p.kind = q0 at *
  generalize p.next = q5 at *
  generalize p.epoch = q6 at *
  generalize p.root = q7 at *
  generalize p.depth = q8 at *
  generalize p.count = q9 at *
  generalize p.high = q10 at *
  have ha1 := Fr.alloc1 w (.cells #[.int .i64 q0, pv, .slice ka ks.length kc, dv, gv, .int .i64 q5, .int .u64 q6, .int .i64 q7, .int .i64 q8, .int .i64 q9, .int .i64 q10] 90)
  have hb1 := blk_new w (.cells #[.int .i64 q0, pv, .slice ka ks.length kc, dv, gv, .int .i64 q5, .int .u64 q6, .int .i64 q7, .int .i64 q8, .int .i64 q9, .int .i64 q10] 90)
  have hs1 : (w.alloc (.cells #[.int .i64 q0, pv, .slice ka ks.length kc, dv, gv, .int .i64 q5, .int .u64 q6, .int .i64 q7, .int .i64 q8, .int .i64 q9, .int .i64 q10] 90)).heap.size = w.heap.size + 1 := heap_sz _ _
  obtain ⟨W1, hW1⟩ : ∃ W1, w.alloc (.cells #[.int .i64 q0, pv, .slice ka ks.length kc, dv, gv, .int .i64 q5, .int .u64 q6, .int .i64 q7, .int .i64 q8, .int .i64 q9, .int .i64 q10] 90) = W1 := ⟨_, rfl⟩
  rw [hW1] at ha1 hb1 hs1
  have ha2 := Fr.alloc1 W1 (.cells #[.string key] 9)
  have hb2 := blk_new W1 (.cells #[.string key] 9)
  obtain ⟨W2, hW2⟩ : ∃ W2, W1.alloc (.cells #[.string key] 9) = W2 := ⟨_, rfl⟩
  rw [hW2, hs1] at hb2
  rw [hW2] at ha2
  have hb1' := ha2.heap hb1 (by simp)
  have c2 : W2.cell? ⟨w.heap.size, 2, none⟩ = some (.slice ka ks.length kc) := by rw [blk_cell hb1' 2]; rfl
  have ck : W2.cell? ⟨w.heap.size + 1, 0, none⟩ = some (.string key) := by rw [blk_cell hb2 0]; rfl
  have HF := Lib.hid (ha1.trans ha2)
  have HS := Lib.hid (search_k (n := ks.length) (c := c) 108 #[.pointer (some ⟨w.heap.size, 0, none⟩), .pointer (some ⟨w.heap.size + 1, 0, none⟩)] W2 hn hc enter_kid fun i w1 hi hf =>
    kid1_k i w1 hi HLT.out hn (hf.cellSome c2 (by simp)) (hf.cellSome ck (by simp)) ((HT.out.kept HF.out).kept hf))
  clear ha1 hb1 ha2 hb2 hb1'
  go_enter Tryz.func64, Tryz.ntmps64
  go_wp2_with fail
  refine HS.out.mono ?_
  rintro e w2 ⟨rfl, hf⟩
  have HF2 := Lib.hid (HF.out.trans hf)
  go_wp2_with fail
  go_ret
  exact ⟨rfl, HF2.out⟩
end Go.Proofs.YtgpohemcfgepeaaGreat

namespace Go.Proofs.YtgpohemcfgepeaaGreat
open Go.RowKit Go.MapKept
set_option maxRecDepth 100000 in
theorem find_k {S : List Nat} {p : PageD} {pv kv dv gv : Value} {c : Nat} {b : Bool} (key : ByteArray) (w : World) (hp : PageIn S w p pv kv dv gv) (hn : p.pairs.length ≤ 1048576) (hc : c ≤ p.pairs.length) (hlo : ∀ i (hi : i < p.pairs.length), Op.bytesLess p.pairs[i].1.toList key.toList = decide (i < c))
    (hb : (match p.pairs[c]? with | some x => decide (cmpK x.1 key = 0) | none => false) = b) :
    Calls Tryz.prog 57 #[.agg (pageCells p pv kv dv gv).toArray, .string key] w fun e w' => e = .returned (.tuple #[.int .i64 c, .bool b]) ∧ Fr [] w w' := by
  have HT := Lib.hid (hp.pairs.mono (S' := []) (by simp))
  have HLO := Lib.hid hlo
  have HB := Lib.hid hb
  clear hp hlo hb
  unfold pageCells
  generalize p.pairs = l at *
  generalize p.kind = q0 at *
  generalize p.next = q5 at *
  generalize p.epoch = q6 at *
  generalize p.root = q7 at *
  generalize p.depth = q8 at *
  generalize p.count = q9 at *
  generalize p.high = q10 at *
  have ha1 := Fr.alloc1 w (.cells #[.int .i64 q0, pv, kv, dv, gv, .int .i64 q5, .int .u64 q6, .int .i64 q7, .int .i64 q8, .int .i64 q9, .int .i64 q10] 90)
  have hb1 := blk_new w (.cells #[.int .i64 q0, pv, kv, dv, gv, .int .i64 q5, .int .u64 q6, .int .i64 q7, .int .i64 q8, .int .i64 q9, .int .i64 q10] 90)
  obtain ⟨W1, hW1⟩ : ∃ W1, w.alloc (.cells #[.int .i64 q0, pv, kv, dv, gv, .int .i64 q5, .int .u64 q6, .int .i64 q7, .int .i64 q8, .int .i64 q9, .int .i64 q10] 90) = W1 := ⟨_, rfl⟩
  rw [hW1] at ha1 hb1
  have c1 : W1.cell? ⟨w.heap.size, 1, none⟩ = some pv := by rw [blk_cell hb1 1]; rfl
  have HF := Lib.hid ha1
  have HS := Lib.hid (bsf_k key W1 (HT.out.kept ha1) hn hc HLO.out HB.out)
  clear ha1 hb1
  go_enter Tryz.func57, Tryz.ntmps57
  go_wp2_with fail
  refine HS.out.mono ?_
  rintro e w2 ⟨rfl, hf⟩
  have HF2 := Lib.hid (HF.out.trans hf)
  go_wp2_with fail
  go_ret2
  exact ⟨rfl, HF2.out⟩
set_option maxRecDepth 100000 in
theorem size_k {S : List Nat} {p : PageD} {pv kv dv gv : Value} (w : World) (hp : PageIn S w p pv kv dv gv) (h1 : p.pairs.length ≤ 1048576) (h2 : p.keys.length ≤ 1048576) :
    Calls Tryz.prog 135 #[.agg (pageCells p pv kv dv gv).toArray] w fun e w' => e = .returned (.int .i64 (p.pairs.length + p.keys.length : Nat)) ∧ Fr [] w w' := by
  obtain ⟨pa, pc, rfl, _⟩ := Slc.form hp.pairs
  obtain ⟨ka, kc, rfl, _⟩ := Slc.form hp.keys
  have h1I : (p.pairs.length : Int) ≤ 1048576 := by omega
  have h2I : (p.keys.length : Int) ≤ 1048576 := by omega
  clear hp
  unfold pageCells
  generalize p.pairs.length = n1 at *
  generalize p.keys.length = n2 at *
  generalize p.kind = q0 at *
  generalize p.next = q5 at *
  generalize p.epoch = q6 at *
  generalize p.root = q7 at *
  generalize p.depth = q8 at *
  generalize p.count = q9 at *
  generalize p.high = q10 at *
  have ha1 := Fr.alloc1 w (.cells #[.int .i64 q0, .slice pa n1 pc, .slice ka n2 kc, dv, gv, .int .i64 q5, .int .u64 q6, .int .i64 q7, .int .i64 q8, .int .i64 q9, .int .i64 q10] 90)
  have hb1 := blk_new w (.cells #[.int .i64 q0, .slice pa n1 pc, .slice ka n2 kc, dv, gv, .int .i64 q5, .int .u64 q6, .int .i64 q7, .int .i64 q8, .int .i64 q9, .int .i64 q10] 90)
  obtain ⟨W1, hW1⟩ : ∃ W1, w.alloc (.cells #[.int .i64 q0, .slice pa n1 pc, .slice ka n2 kc, dv, gv, .int .i64 q5, .int .u64 q6, .int .i64 q7, .int .i64 q8, .int .i64 q9, .int .i64 q10] 90) = W1 := ⟨_, rfl⟩
  rw [hW1] at ha1 hb1
  have c1 : W1.cell? ⟨w.heap.size, 1, none⟩ = some (.slice pa n1 pc) := by rw [blk_cell hb1 1]; rfl
  have c2 : W1.cell? ⟨w.heap.size, 2, none⟩ = some (.slice ka n2 kc) := by rw [blk_cell hb1 2]; rfl
  have HF := Lib.hid ha1
  clear ha1 hb1
  go_enter Tryz.func135, Tryz.ntmps135
  go_wp2_with fail
  go_ret
  exact ⟨by go_num, HF.out⟩
set_option maxRecDepth 100000 in
theorem most_k {p : PageD} {pv kv dv gv : Value} (w : World) :
    Calls Tryz.prog 136 #[.agg (pageCells p pv kv dv gv).toArray] w fun e w' => e = .returned (.int .i64 (if p.kind = 1 then 6 else 12)) ∧ Fr [] w w' := by
  unfold pageCells
  generalize p.kind = q0 at *
  generalize p.next = q5 at *
  generalize p.epoch = q6 at *
  generalize p.root = q7 at *
  generalize p.depth = q8 at *
  generalize p.count = q9 at *
  generalize p.high = q10 at *
  have ha1 := Fr.alloc1 w (.cells #[.int .i64 q0, pv, kv, dv, gv, .int .i64 q5, .int .u64 q6, .int .i64 q7, .int .i64 q8, .int .i64 q9, .int .i64 q10] 90)
  have hb1 := blk_new w (.cells #[.int .i64 q0, pv, kv, dv, gv, .int .i64 q5, .int .u64 q6, .int .i64 q7, .int .i64 q8, .int .i64 q9, .int .i64 q10] 90)
  obtain ⟨W1, hW1⟩ : ∃ W1, w.alloc (.cells #[.int .i64 q0, pv, kv, dv, gv, .int .i64 q5, .int .u64 q6, .int .i64 q7, .int .i64 q8, .int .i64 q9, .int .i64 q10] 90) = W1 := ⟨_, rfl⟩
  rw [hW1] at ha1 hb1
  have c1 : W1.cell? ⟨w.heap.size, 0, none⟩ = some (.int .i64 q0) := by rw [blk_cell hb1 0]; rfl
  have HF := Lib.hid ha1
  clear ha1 hb1
  by_cases h : q0 = 1
  · subst h
    go_enter Tryz.func136, Tryz.ntmps136
    go_wp2_with fail
    go_ret
    exact ⟨rfl, HF.out⟩
  · rw [if_neg h]
    go_enter Tryz.func136, Tryz.ntmps136
    go_wp2_with fail
    go_ret
    exact ⟨rfl, HF.out⟩
end Go.Proofs.YtgpohemcfgepeaaGreat

namespace Go.Proofs.YtgpohemcfgepeaaGreat
open Go.RowKit Go.MapKept
set_option maxRecDepth 100000 in
theorem tRoot_nil (w : World) : Calls Tryz.prog 28 #[.pointer none] w fun e w' => e = .returned (.int .i64 0) ∧ w = w' := by
  have hn : ∀ w : World, (binOp BinOp.eql 24 (.pointer none) (.pointer none)).run Tryz.prog w = .ok (.bool true) w := fun _ => by kernel_rfl
  go_enter Tryz.func28, Tryz.ntmps28
  go_wp2
  go_ret
  exact ⟨rfl, rfl⟩
set_option maxRecDepth 100000 in
theorem tRoot_k {tb sb b ml mc fm : Nat} {t : TrD} (w : World) (h : TrAt w tb sb b ml mc fm t) : Calls Tryz.prog 28 #[.pointer (some ⟨tb, 0, none⟩)] w fun e w' => e = .returned (.int .i64 t.root) ∧ w = w' := by
  have c0 : w.cell? ⟨tb, 1, none⟩ = some (.int .i64 t.root) := blk_cell h.blk 1
  clear h
  go_enter Tryz.func28, Tryz.ntmps28
  go_wp2
  go_ret
  exact ⟨rfl, rfl⟩
set_option maxRecDepth 100000 in
theorem tDepth_nil (w : World) : Calls Tryz.prog 29 #[.pointer none] w fun e w' => e = .returned (.int .i64 0) ∧ w = w' := by
  have hn : ∀ w : World, (binOp BinOp.eql 24 (.pointer none) (.pointer none)).run Tryz.prog w = .ok (.bool true) w := fun _ => by kernel_rfl
  go_enter Tryz.func29, Tryz.ntmps29
  go_wp2
  go_ret
  exact ⟨rfl, rfl⟩
set_option maxRecDepth 100000 in
theorem tDepth_k {tb sb b ml mc fm : Nat} {t : TrD} (w : World) (h : TrAt w tb sb b ml mc fm t) : Calls Tryz.prog 29 #[.pointer (some ⟨tb, 0, none⟩)] w fun e w' => e = .returned (.int .i64 t.depth) ∧ w = w' := by
  have c0 : w.cell? ⟨tb, 2, none⟩ = some (.int .i64 t.depth) := blk_cell h.blk 2
  clear h
  go_enter Tryz.func29, Tryz.ntmps29
  go_wp2
  go_ret
  exact ⟨rfl, rfl⟩
set_option maxRecDepth 100000 in
theorem tCount_nil (w : World) : Calls Tryz.prog 19 #[.pointer none] w fun e w' => e = .returned (.int .i64 0) ∧ w = w' := by
  have hn : ∀ w : World, (binOp BinOp.eql 24 (.pointer none) (.pointer none)).run Tryz.prog w = .ok (.bool true) w := fun _ => by kernel_rfl
  go_enter Tryz.func19, Tryz.ntmps19
  go_wp2
  go_ret
  exact ⟨rfl, rfl⟩
set_option maxRecDepth 100000 in
theorem tCount_k {tb sb b ml mc fm : Nat} {t : TrD} (w : World) (h : TrAt w tb sb b ml mc fm t) : Calls Tryz.prog 19 #[.pointer (some ⟨tb, 0, none⟩)] w fun e w' => e = .returned (.int .i64 t.count) ∧ w = w' := by
  have c0 : w.cell? ⟨tb, 3, none⟩ = some (.int .i64 t.count) := blk_cell h.blk 3
  clear h
  go_enter Tryz.func19, Tryz.ntmps19
  go_wp2
  go_ret
  exact ⟨rfl, rfl⟩
set_option maxRecDepth 100000 in
theorem tStore_nil (w : World) : Calls Tryz.prog 30 #[.pointer none] w fun e w' => e = .returned (.pointer none) ∧ w = w' := by
  have hn : ∀ w : World, (binOp BinOp.eql 24 (.pointer none) (.pointer none)).run Tryz.prog w = .ok (.bool true) w := fun _ => by kernel_rfl
  go_enter Tryz.func30, Tryz.ntmps30
  go_wp2
  go_ret
  exact ⟨rfl, rfl⟩
set_option maxRecDepth 100000 in
theorem tStore_k {tb sb b ml mc fm : Nat} {t : TrD} (w : World) (h : TrAt w tb sb b ml mc fm t) : Calls Tryz.prog 30 #[.pointer (some ⟨tb, 0, none⟩)] w fun e w' => e = .returned (.pointer (some ⟨sb, 0, none⟩)) ∧ w = w' := by
  have c0 : w.cell? ⟨tb, 0, none⟩ = some (.pointer (some ⟨sb, 0, none⟩)) := blk_cell h.blk 0
  clear h
  go_enter Tryz.func30, Tryz.ntmps30
  go_wp2
  go_ret
  exact ⟨rfl, rfl⟩
end Go.Proofs.YtgpohemcfgepeaaGreat

namespace Go.Proofs.YtgpohemcfgepeaaGreat
open Go.RowKit Go.MapKept
theorem tpage_results {tmps : Array Value} {w : World} {g : Nat} {x0 x1 x2 x3 x4 x5 x6 x7 x8 x9 x10 : Value} {x : Int} (h4 : tmps.getD 6 undef = .pointer (some ⟨g, 0, none⟩)) (h5 : tmps.getD 7 undef = .int .i64 x)
    (hp : w.heap[g]? = some (.cells #[x0, x1, x2, x3, x4, x5, x6, x7, x8, x9, x10] 90 (0, 0))) :
    (results Tryz.f63 tmps).run Tryz.prog w = .ok (.tuple #[.agg #[x0, x1, x2, x3, x4, x5, x6, x7, x8, x9, x10], .int .i64 x]) w := by
  obtain ⟨q0, q1, q2, q3, q4, q5, q6, q7, q8, q9, q10⟩ := c11 hp
  rw [Array.getD_eq_getD_getElem?] at h4 h5
  simp [results, Tryz.results63, go_sem, h4, h5, q0, q1, q2, q3, q4, q5, q6, q7, q8, q9, q10]
theorem tpage_told {tmps : Array Value} {w W4 : World} {p : PageD} {pv kv dv gv : Value} {x : Int} {R : PageD × Int} (hR : R = (p, x))
    (h4 : tmps.getD 6 undef = .pointer (some ⟨w.heap.size, 0, none⟩)) (h5 : tmps.getD 7 undef = .int .i64 x) (hb : W4.heap[w.heap.size]? = some (.cells zeroPage.toArray 90 (0, 0)))
    (hf : Fr [] w W4) (hi : ∀ S : List Nat, (∀ x, x ∈ S → x < w.heap.size + 1) → PageIn S W4 p pv kv dv gv) :
    bodyPost Tryz.prog Tryz.f63 (PageOut w R) Exit.ret { tmps := tmps, defers := [] }
      ((((((((((((W4).setCell ⟨w.heap.size, 0, none⟩ (.int .i64 p.kind)).setCell ⟨w.heap.size, 1, none⟩ pv).setCell ⟨w.heap.size, 2, none⟩ kv).setCell ⟨w.heap.size, 3, none⟩ dv).setCell ⟨w.heap.size, 4, none⟩ gv).setCell ⟨w.heap.size, 5, none⟩ (.int .i64 p.next)).setCell ⟨w.heap.size, 6, none⟩ (.int .u64 p.epoch)).setCell ⟨w.heap.size, 7, none⟩ (.int .i64 p.root)).setCell ⟨w.heap.size, 8, none⟩ (.int .i64 p.depth)).setCell ⟨w.heap.size, 9, none⟩ (.int .i64 p.count)).setCell ⟨w.heap.size, 10, none⟩ (.int .i64 p.high)) := by
  subst hR
  have hs := set11 hb rfl (.int .i64 p.kind) pv kv dv gv (.int .i64 p.next) (.int .u64 p.epoch) (.int .i64 p.root) (.int .i64 p.depth) (.int .i64 p.count) (.int .i64 p.high)
  refine bodyPost_ret (v := .tuple #[.agg (pageCells p pv kv dv gv).toArray, .int .i64 x]) (tpage_results h4 h5 hs.1) rfl ⟨pv, kv, dv, gv, rfl, fun S hS => ?_, (hf.nil.trans hs.2).drop (by simp)⟩
  exact ((hi (w.heap.size :: S) (fun x hx => by
    rcases List.mem_cons.1 hx with rfl | hx
    · omega
    · have := hS x hx; omega)).kept (hs.2.mono (by simp))).mono (fun x hx => List.mem_cons_of_mem _ hx)
set_option maxRecDepth 100000 in
set_option maxHeartbeats 2000000 in
theorem tpage_k {tb sb b ml mc fm : Nat} {T : StD} (n d : Int) (w : World) (hc0 : w.cell? ⟨tb, 0, none⟩ = some (.pointer (some ⟨sb, 0, none⟩))) (h : StoAt w sb b ml mc fm T) :
    Calls Tryz.prog 63 #[.pointer (some ⟨tb, 0, none⟩), .int .i64 n, .int .i64 d] w (PageOut w (pageK T n d)) := by
  obtain ⟨W1, hW1⟩ : ∃ W1, w.alloc (.cells zeroPage.toArray 90) = W1 := ⟨_, rfl⟩
  have hal : Fr [] w W1 := by rw [← hW1]; exact Fr.alloc1 w _
  have hbk : W1.heap[w.heap.size]? = some (.cells zeroPage.toArray 90 (0, 0)) := by rw [← hW1]; exact blk_new w _
  have hsz : W1.heap.size = w.heap.size + 1 := by rw [← hW1]; exact heap_sz _ _
  have c0 := hal.cellSome hc0 (by simp)
  have HPG := Lib.hid (page_s n W1 (h.kept hal))
  have HAL := Lib.hid hal
  have HBK := Lib.hid hbk
  have HSZ := Lib.hid hsz
  obtain ⟨⟨p, x⟩, hR⟩ : ∃ R, T.page n = R := ⟨_, rfl⟩
  have HK : Hid (pageK T n d = if x = 50 ∨ x = 41 ∨ (x = 0 ∧ p.kind ≠ kindAt d) then (pgZero, 81) else (p, x)) := Lib.hid (by unfold pageK; rw [hR])
  rw [hR] at HPG
  clear hc0 h hal hbk hsz hR
  unfold zeroPage at hW1
  obtain ⟨k, hk⟩ : ∃ k, kindAt d = k := ⟨_, rfl⟩
  rw [hk] at HK
  have hcs : (d = 1 ∧ k = 1) ∨ ((d == 1) = false ∧ k = 2) := by
    unfold kindAt at hk
    by_cases hd : d = 1
    · rw [if_pos hd] at hk; exact .inl ⟨hd, hk.symm⟩
    · rw [if_neg hd] at hk; exact .inr ⟨by simpa using hd, hk.symm⟩
  clear hk
  unfold PageOut pageCells at HPG
  rcases hcs with ⟨rfl, rfl⟩ | ⟨hd, rfl⟩
  · go_enter Tryz.func63, Tryz.ntmps63
    go_wp2_with fail
    with_reducible refine HPG.out.mono ?_
    rintro e w2 ⟨pv, kv, dv, gv, rfl, hi, hf2⟩
    obtain ⟨pa, pc, rfl, _⟩ := Slc.form (hi [] (by simp)).pairs
    obtain ⟨ka, kc, rfl, _⟩ := Slc.form (hi [] (by simp)).keys
    obtain ⟨da, dc, rfl, _⟩ := Slc.form (hi [] (by simp)).kids
    obtain ⟨ga, gc, rfl, _⟩ := Slc.form (hi [] (by simp)).pages
    obtain ⟨W4, hW4⟩ : ∃ W4, w2.alloc (.cells (pageCells p (.slice pa p.pairs.length pc) (.slice ka p.keys.length kc) (.slice da p.kids.length dc) (.slice ga p.pages.length gc)).toArray 90) = W4 := ⟨_, rfl⟩
    have hal4 : Fr [] w2 W4 := by rw [← hW4]; exact Fr.alloc1 w2 _
    have hbk4 : W4.heap[w2.heap.size]? = some (.cells (pageCells p (.slice pa p.pairs.length pc) (.slice ka p.keys.length kc) (.slice da p.kids.length dc) (.slice ga p.pages.length gc)).toArray 90 (0, 0)) := by rw [← hW4]; exact blk_new w2 _
    have hb4 := hal4.heap (hf2.heap HBK.out (by simp)) (by simp)
    have HI4 : Hid (∀ S : List Nat, (∀ x, x ∈ S → x < w.heap.size + 1) → PageIn S W4 p (.slice pa p.pairs.length pc) (.slice ka p.keys.length kc) (.slice da p.kids.length dc) (.slice ga p.pages.length gc)) := Lib.hid fun S hS => (hi S (by rw [HSZ.out]; exact hS)).kept hal4.nil
    have HB4 := Lib.hid hb4
    have HF4 := Lib.hid ((HAL.out.trans hf2).trans hal4)
    unfold pageCells at hW4 hbk4 HI4
    obtain ⟨z0, z1, z2, z3, z4, z5, z6, z7, z8, z9, z10⟩ := c11 hbk4
    unfold zeroPage at hb4
    obtain ⟨r0, r1, r2, r3, r4, r5, r6, r7, r8, r9, r10⟩ := c11 hb4
    obtain ⟨y0, y1, y2, y3, y4, y5, y6, y7, y8, y9, y10⟩ := f11 hb4
    clear hi hf2 hal4 hbk4 hb4 HPG hW1
    by_cases x50 : x = 50
    · have HP : Hid (pageK T n _ = (pgZero, 81)) := Lib.hid (HK.out.trans (if_pos (.inl x50)))
      have b1 : (x == 50) = true := by simpa using x50
      clear x50 HK
      go_wp2_with fail
      exact tpage_told (p := pgZero) (pv := nilV) (kv := nilV) (dv := nilV) (gv := nilV) HP.out rfl rfl HB4.out HF4.out (fun S _ => zero_in S _)
    have b1 : (x == 50) = false := by simpa using x50
    by_cases x41 : x = 41
    · have HP : Hid (pageK T n _ = (pgZero, 81)) := Lib.hid (HK.out.trans (if_pos (.inr (.inl x41))))
      have b2 : (x == 41) = true := by simpa using x41
      clear x50 x41 HK
      go_wp2_with fail
      exact tpage_told (p := pgZero) (pv := nilV) (kv := nilV) (dv := nilV) (gv := nilV) HP.out rfl rfl HB4.out HF4.out (fun S _ => zero_in S _)
    have b2 : (x == 41) = false := by simpa using x41
    by_cases x0 : x = 0
    · subst x0
      by_cases hk : p.kind = 1
      · have HP : Hid (pageK T n _ = (p, 0)) := Lib.hid (HK.out.trans (if_neg (by rintro (h | h | h); cases h; cases h; exact h.2 hk)))
        have b3 : (p.kind != 1) = false := by simpa using hk
        clear x50 x41 hk HK
        go_wp2_with fail
        exact tpage_told HP.out rfl rfl HB4.out HF4.out HI4.out
      · have HP : Hid (pageK T n _ = (pgZero, 81)) := Lib.hid (HK.out.trans (if_pos (.inr (.inr ⟨rfl, hk⟩))))
        have b3 : (p.kind != 1) = true := by simpa using hk
        clear x50 x41 hk HK
        go_wp2_with fail
        exact tpage_told (p := pgZero) (pv := nilV) (kv := nilV) (dv := nilV) (gv := nilV) HP.out rfl rfl HB4.out HF4.out (fun S _ => zero_in S _)
    · have HP : Hid (pageK T n _ = (p, x)) := Lib.hid (HK.out.trans (if_neg (by rintro (h | h | h); exact x50 h; exact x41 h; exact x0 h.1)))
      have b3 : (x == 0) = false := by simpa using x0
      clear x50 x41 x0 HK
      go_wp2_with fail
      exact tpage_told HP.out rfl rfl HB4.out HF4.out HI4.out
  · go_enter Tryz.func63, Tryz.ntmps63
    go_wp2_with fail
    with_reducible refine HPG.out.mono ?_
    rintro e w2 ⟨pv, kv, dv, gv, rfl, hi, hf2⟩
    obtain ⟨pa, pc, rfl, _⟩ := Slc.form (hi [] (by simp)).pairs
    obtain ⟨ka, kc, rfl, _⟩ := Slc.form (hi [] (by simp)).keys
    obtain ⟨da, dc, rfl, _⟩ := Slc.form (hi [] (by simp)).kids
    obtain ⟨ga, gc, rfl, _⟩ := Slc.form (hi [] (by simp)).pages
    obtain ⟨W4, hW4⟩ : ∃ W4, w2.alloc (.cells (pageCells p (.slice pa p.pairs.length pc) (.slice ka p.keys.length kc) (.slice da p.kids.length dc) (.slice ga p.pages.length gc)).toArray 90) = W4 := ⟨_, rfl⟩
    have hal4 : Fr [] w2 W4 := by rw [← hW4]; exact Fr.alloc1 w2 _
    have hbk4 : W4.heap[w2.heap.size]? = some (.cells (pageCells p (.slice pa p.pairs.length pc) (.slice ka p.keys.length kc) (.slice da p.kids.length dc) (.slice ga p.pages.length gc)).toArray 90 (0, 0)) := by rw [← hW4]; exact blk_new w2 _
    have hb4 := hal4.heap (hf2.heap HBK.out (by simp)) (by simp)
    have HI4 : Hid (∀ S : List Nat, (∀ x, x ∈ S → x < w.heap.size + 1) → PageIn S W4 p (.slice pa p.pairs.length pc) (.slice ka p.keys.length kc) (.slice da p.kids.length dc) (.slice ga p.pages.length gc)) := Lib.hid fun S hS => (hi S (by rw [HSZ.out]; exact hS)).kept hal4.nil
    have HB4 := Lib.hid hb4
    have HF4 := Lib.hid ((HAL.out.trans hf2).trans hal4)
    unfold pageCells at hW4 hbk4 HI4
    obtain ⟨z0, z1, z2, z3, z4, z5, z6, z7, z8, z9, z10⟩ := c11 hbk4
    unfold zeroPage at hb4
    obtain ⟨r0, r1, r2, r3, r4, r5, r6, r7, r8, r9, r10⟩ := c11 hb4
    obtain ⟨y0, y1, y2, y3, y4, y5, y6, y7, y8, y9, y10⟩ := f11 hb4
    clear hi hf2 hal4 hbk4 hb4 HPG hW1
    by_cases x50 : x = 50
    · have HP : Hid (pageK T n _ = (pgZero, 81)) := Lib.hid (HK.out.trans (if_pos (.inl x50)))
      have b1 : (x == 50) = true := by simpa using x50
      clear x50 HK
      go_wp2_with fail
      exact tpage_told (p := pgZero) (pv := nilV) (kv := nilV) (dv := nilV) (gv := nilV) HP.out rfl rfl HB4.out HF4.out (fun S _ => zero_in S _)
    have b1 : (x == 50) = false := by simpa using x50
    by_cases x41 : x = 41
    · have HP : Hid (pageK T n _ = (pgZero, 81)) := Lib.hid (HK.out.trans (if_pos (.inr (.inl x41))))
      have b2 : (x == 41) = true := by simpa using x41
      clear x50 x41 HK
      go_wp2_with fail
      exact tpage_told (p := pgZero) (pv := nilV) (kv := nilV) (dv := nilV) (gv := nilV) HP.out rfl rfl HB4.out HF4.out (fun S _ => zero_in S _)
    have b2 : (x == 41) = false := by simpa using x41
    by_cases x0 : x = 0
    · subst x0
      by_cases hk : p.kind = 2
      · have HP : Hid (pageK T n _ = (p, 0)) := Lib.hid (HK.out.trans (if_neg (by rintro (h | h | h); cases h; cases h; exact h.2 hk)))
        have b3 : (p.kind != 2) = false := by simpa using hk
        clear x50 x41 hk HK
        go_wp2_with fail
        exact tpage_told HP.out rfl rfl HB4.out HF4.out HI4.out
      · have HP : Hid (pageK T n _ = (pgZero, 81)) := Lib.hid (HK.out.trans (if_pos (.inr (.inr ⟨rfl, hk⟩))))
        have b3 : (p.kind != 2) = true := by simpa using hk
        clear x50 x41 hk HK
        go_wp2_with fail
        exact tpage_told (p := pgZero) (pv := nilV) (kv := nilV) (dv := nilV) (gv := nilV) HP.out rfl rfl HB4.out HF4.out (fun S _ => zero_in S _)
    · have HP : Hid (pageK T n _ = (p, x)) := Lib.hid (HK.out.trans (if_neg (by rintro (h | h | h); exact x50 h; exact x41 h; exact x0 h.1)))
      have b3 : (x == 0) = false := by simpa using x0
      clear x50 x41 x0 HK
      go_wp2_with fail
      exact tpage_told HP.out rfl rfl HB4.out HF4.out HI4.out
end Go.Proofs.YtgpohemcfgepeaaGreat
