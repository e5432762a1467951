/- a part. -/
import Derived.Test.YtgpohemcfgepeaaGreatG3
import Derived.Test.YtgpohemcfgepeaaGreatG4
import Derived.Deep.RegionHeld3
import Derived.Test.YtgpohemcfgepeaaGreatG1
import Derived.Test.YtgpohemcfgepeaaGreatG2
import Derived.IntWalk
namespace Go.Proofs.YtgpohemcfgepeaaGreat
open Go.RowKit Go.MapKept
def pairsL (l : List PairD) : List UInt8 := l.flatMap fun x => textL x.1 ++ textL x.2
theorem pairsL_snoc {l : List PairD} {k : Nat} (hk : k < l.length) : pairsL (l.take (k + 1)) = pairsL (l.take k) ++ textL l[k].1 ++ textL l[k].2 := by
  unfold pairsL
  rw [List.take_succ_eq_append_getElem hk, List.flatMap_append]; simp
def keysL (keys : List ByteArray) (kids : List Int) : List UInt8 := (keys.zip (kids.drop 1)).flatMap fun x => textL x.1 ++ twoL [x.2]
def PageD.superL (p : PageD) : List Int := [p.root, p.depth, p.count / 65536, bits .and .i64 p.count 65535, p.high, p.next]
def PageD.body (p : PageD) : List UInt8 :=
  if p.kind = 1 then twoL [p.pairs.length] ++ pairsL p.pairs
  else if p.kind = 2 then twoL [p.keys.length, p.kids.headD 0] ++ keysL p.keys p.kids
  else if p.kind = 3 then twoL ([(p.pages.length : Int)] ++ p.pages ++ [p.next])
  else twoL p.superL
theorem ints_of {w : World} {xs : List Int} {b : Nat} {T : TypeId} (h : w.heap[b]? = some (.cells (xs.map intV).toArray T (0, 0))) : Ints [] w (.slice (some ⟨b, 0, none⟩) xs.length xs.length) xs := by
  have := Slc.ofBlock (S := []) h (by simp) xs.length xs.length (Nat.le_refl _)
  unfold Ints
  simpa using this
set_option maxRecDepth 100000 in
set_option maxHeartbeats 1000000 in
theorem body_super {p : PageD} {pa ka da ga : Option Addr} {pc kc dc gc : Nat} (w : World) (k1 : p.kind ≠ 1) (k2 : p.kind ≠ 2) (k3 : p.kind ≠ 3) :
    Calls Tryz.prog 178 #[.agg (pageCells p (.slice pa p.pairs.length pc) (.slice ka p.keys.length kc) (.slice da p.kids.length dc) (.slice ga p.pages.length gc)).toArray] w (MadeB w (twoL p.superL)) := by
  have hal := Fr.alloc1 w (.cells (pageCells p (.slice pa p.pairs.length pc) (.slice ka p.keys.length kc) (.slice da p.kids.length dc) (.slice ga p.pages.length gc)).toArray 90)
  obtain ⟨W1, hW1⟩ : ∃ W, w.alloc (.cells (pageCells p (.slice pa p.pairs.length pc) (.slice ka p.keys.length kc) (.slice da p.kids.length dc) (.slice ga p.pages.length gc)).toArray 90) = W := ⟨_, rfl⟩
  have hck : CkAt w p (.slice pa p.pairs.length pc) (.slice ka p.keys.length kc) (.slice da p.kids.length dc) (.slice ga p.pages.length gc) W1 := by rw [← hW1]; exact ⟨hal, blk_new w _⟩
  have c0 := hck.cells 0
  have c5 := hck.cells 5
  have c7 := hck.cells 7
  have c8 := hck.cells 8
  have c9 := hck.cells 9
  have c10 := hck.cells 10
  simp only [pageCells, List.getElem?_cons_zero, List.getElem?_cons_succ] at c0 c5 c7 c8 c9 c10
  clear hck
  have hb := blk_new W1 (.cells (p.superL.map intV).toArray 3)
  have hal2 := Fr.alloc1 W1 (.cells (p.superL.map intV).toArray 3)
  rw [hW1] at hal
  have hi := ints_of hb
  have HTW := Lib.hid (two_k _ hi (by unfold PageD.superL; simp))
  have HF := Lib.hid (hal.trans hal2)
  clear hb hal2 hi hal
  unfold PageD.superL at HTW HF ⊢
  simp only [List.map_cons, List.map_nil, intV, List.length_cons, List.length_nil, Nat.reduceAdd] at HTW HF
  unfold pageCells at *
  go_enter Tryz.func178, Tryz.ntmps178
  go_wp2_with fail
  refine HTW.out.mono ?_
  rintro e w2 ⟨v2, rfl, ho2, hf2⟩
  have HQ : Hid (MadeB w (twoL [p.root, p.depth, p.count / 65536, bits .and .i64 p.count 65535, p.high, p.next]) (.returned v2) w2) := Lib.hid ⟨v2, rfl, ho2.less HF.out.size, HF.out.trans hf2⟩
  clear ho2 hf2 HTW hW1
  go_wp2
  go_ret
  exact HQ.out
end Go.Proofs.YtgpohemcfgepeaaGreat

namespace Go.Proofs.YtgpohemcfgepeaaGreat
open Go.RowKit Go.MapKept
theorem ints_single' (w : World) (n : Int) : Ints [] (w.alloc (.cells #[.int .i64 n] 3)) (.slice (some ⟨w.heap.size, 0, none⟩) 1 1) [n] :=
  Slc.ofBlock (blk_new w (.cells #[.int .i64 n] 3)) (by simp) 1 1 (Nat.le_refl _)
theorem pairsL_length {l : List PairD} (h : ∀ x ∈ l, x.1.size ≤ 1000 ∧ x.2.size ≤ 1000) : (pairsL l).length ≤ l.length * 2002 := by
  induction l with
  | nil => simp [pairsL]
  | cons x l ih =>
    have h1 := h x (by simp)
    have := ih (fun y hy => h y (by simp [hy]))
    have e : pairsL (x :: l) = textL x.1 ++ textL x.2 ++ pairsL l := by unfold pairsL; rw [List.flatMap_cons]
    rw [e, List.length_append, List.length_append, textL_length, textL_length, List.length_cons]
    omega
set_option maxRecDepth 100000 in
set_option maxHeartbeats 400000 in
theorem body_leaf {p : PageD} {pa ka da ga : Option Addr} {pc kc dc gc : Nat} (w : World) (k1 : p.kind = 1) (hp : Prs [] w (.slice pa p.pairs.length pc) p.pairs) (hl : p.pairs.length ≤ 100) (hs : ∀ x ∈ p.pairs, x.1.size ≤ 1000 ∧ x.2.size ≤ 1000) :
    Calls Tryz.prog 178 #[.agg (pageCells p (.slice pa p.pairs.length pc) (.slice ka p.keys.length kc) (.slice da p.kids.length dc) (.slice ga p.pages.length gc)).toArray] w (MadeB w (twoL [p.pairs.length] ++ pairsL p.pairs)) := by
  obtain ⟨kd, l, keys, kids, pages, nx, ep, rt, dp, ct, hg⟩ := p
  dsimp only at *
  subst k1
  generalize keys.length = nk
  generalize kids.length = nd
  generalize pages.length = ng
  obtain ⟨W1, hW1⟩ : ∃ W, w.alloc (.cells #[.int .i64 1, .slice pa l.length pc, .slice ka nk kc, .slice da nd dc, .slice ga ng gc, .int .i64 nx, .int .u64 ep, .int .i64 rt, .int .i64 dp, .int .i64 ct, .int .i64 hg] 90) = W := ⟨_, rfl⟩
  have hal := Fr.alloc1 w (.cells #[.int .i64 1, .slice pa l.length pc, .slice ka nk kc, .slice da nd dc, .slice ga ng gc, .int .i64 nx, .int .u64 ep, .int .i64 rt, .int .i64 dp, .int .i64 ct, .int .i64 hg] 90)
  have hbk := blk_new w (.cells #[.int .i64 1, .slice pa l.length pc, .slice ka nk kc, .slice da nd dc, .slice ga ng gc, .int .i64 nx, .int .u64 ep, .int .i64 rt, .int .i64 dp, .int .i64 ct, .int .i64 hg] 90)
  rw [hW1] at hal hbk
  have c0 := blk_cell hbk 0
  have c1 := blk_cell hbk 1
  simp only [List.getElem?_toArray, List.getElem?_cons_zero, List.getElem?_cons_succ] at c0 c1
  have HP := Lib.hid (hp.kept hal)
  have HAL := Lib.hid hal
  have HS := Lib.hid hs
  have HL := Lib.hid hl
  have hlJ : (l.length : Int) ≤ 100 := by omega
  have HTW := Lib.hid (two_k _ (ints_single' W1 l.length) (by simp))
  have HA1 := Lib.hid (hal.trans (Fr.alloc1 W1 (.cells #[.int .i64 (l.length : Int)] 3)))
  clear hp hal hs hl hbk
  unfold pageCells
  dsimp only
  go_enter Tryz.func178, Tryz.ntmps178
  go_wp2_with fail
  refine HTW.out.mono ?_
  rintro e w2 ⟨v2, rfl, ho2, hf2⟩
  clear hW1
  have hF2 := HA1.out.trans hf2
  have HO2 : Hid (OwnB W1 w2 v2 (twoL [(l.length : Int)])) := Lib.hid (ho2.less (Fr.alloc1 W1 (.cells #[.int .i64 (l.length : Int)] 3)).size)
  have HF2 := Lib.hid hF2
  have HF2b := Lib.hid ((Fr.alloc1 W1 (.cells #[.int .i64 (l.length : Int)] 3)).trans hf2)
  have c1' := HF2b.out.cellSome c1 (by simp)
  clear ho2 hf2 hF2 HTW c0 c1
  go_wp2_with fail
  go_loopw [4, 22] (fun x i wr => ∃ k : Nat, k ≤ l.length ∧ i = .int .i64 k ∧ OwnB W1 wr x (twoL [(l.length : Int)] ++ pairsL (l.take k)) ∧ Fr [] W1 wr) (fun _ i _ => l.length - (intOf i).toNat)
  case atStart => exact ⟨0, Nat.zero_le _, rfl, by simpa [pairsL] using HO2.out, HF2b.out⟩
  case round =>
    obtain ⟨k, hkl, rfl, hown, hfr⟩ := hrel
    by_cases hlt : k < l.length
    · have hkI : (k : Int) < (l.length : Int) := by omega
      obtain ⟨B, off, rfl⟩ : ∃ B off, pa = some ⟨B, off, none⟩ := by
        rcases HP.out with ⟨_, _, _, h0, _⟩ | ⟨B, off, cap, h, _⟩
        · omega
        · cases h; exact ⟨B, off, rfl⟩
      obtain ⟨hc1, hc2⟩ := (HP.out.kept hfr).at hlt
      have hsn := pairsL_snoc hlt
      have hln : (pairsL (l.take k)).length ≤ 200200 := by
        have h1 := pairsL_length (l := l.take k) (fun x hx => HS.out x (List.mem_of_mem_take hx))
        have h2 := HL.out
        rw [List.length_take] at h1
        omega
      have hx := HS.out l[k] (List.getElem_mem hlt)
      generalize l[k] = x at *
      obtain ⟨x1, x2⟩ := x
      simp only at hc1 hc2 hsn hx
      obtain ⟨W2, hW2⟩ : ∃ W, wr.alloc (.cells #[.string x1, .string x2] 36) = W := ⟨_, rfl⟩
      have hal := Fr.alloc1 wr (.cells #[.string x1, .string x2] 36)
      have hbk := blk_new wr (.cells #[.string x1, .string x2] 36)
      rw [hW2] at hal hbk
      have t0 := blk_cell hbk 0
      have t1 := blk_cell hbk 1
      simp only [List.getElem?_toArray, List.getElem?_cons_zero, List.getElem?_cons_succ] at t0 t1
      have HTX := Lib.hid (text_t x1 W2.drew (ownsKept hown (hal.trans (Fr.refl [] W2).drew) (by simp) : OwnB W1 W2.drew _ _) (hfr.trans (hal.trans (Fr.refl [] W2).drew)) (by rw [List.length_append, twoL_length]; simp; omega))
      have HB2 := Lib.hid ((Fr.refl [] W2).drew.heap hbk (by simp))
      have HSN := Lib.hid hsn
      have hsz : W2.heap.size = wr.heap.size + 1 := by rw [← hW2]; simp
      have HFR := Lib.hid (hfr.trans hal)
      have HLN : Hid ((twoL [(l.length : Int)] ++ pairsL (l.take k) ++ textL x1).length + x2.size ≤ 1000000) := Lib.hid (by rw [List.length_append, List.length_append, twoL_length, textL_length]; simp; omega)
      clear hown hfr hal hbk hsn hln hx
      go_wp2_with fail
      go_region_held3 (fun w' => w'.cell? ⟨wr.heap.size, 0, none⟩ = some (.string x1) ∧ w'.cell? ⟨wr.heap.size, 1, none⟩ = some (.string x2)) (first | exact ⟨b0, b1⟩ | exact ⟨a0, a1⟩ | exact ⟨t0, t1⟩ | go_keep)
        (first
        | (go_at_call 198
           with_reducible refine HTX.out.mono ?_
           rintro e w5 ⟨⟨v5, rfl, ho5, hf5⟩, hk5⟩
           have HO5 := Lib.hid ho5
           have HF5 := Lib.hid hf5
           have HB5 := Lib.hid (hk5 _ _ _ (by decide) HB2.out)
           have a0 := blk_cell HB5.out 0
           have a1 := blk_cell HB5.out 1
           simp only [List.getElem?_toArray, List.getElem?_cons_zero, List.getElem?_cons_succ] at a0 a1
           clear ho5 hf5 hk5)
        | (go_at_call 198
           with_reducible refine (text_t x2 _ HO5.out HF5.out HLN.out).mono ?_
           rintro e w6 ⟨⟨v6, rfl, ho6, hf6⟩, hk6⟩
           have HO6 := Lib.hid ho6
           have HF6 := Lib.hid hf6
           have b0 := blk_cell (hk6 _ _ _ (by decide) HB5.out) 0
           have b1 := blk_cell (hk6 _ _ _ (by decide) HB5.out) 1
           simp only [List.getElem?_toArray, List.getElem?_cons_zero, List.getElem?_cons_succ] at b0 b1
           clear ho6 hf6 hk6))
      all_goals
        go_wp2
        go_roundw
        case rel => exact ⟨k + 1, by omega, by go_num, by rw [HSN.out, ← List.append_assoc, ← List.append_assoc]; exact HO6.out, HF6.out⟩
        case measure => simp [intOf]; omega
    · obtain rfl : k = l.length := by omega
      rw [List.take_length] at hown
      have HQ : Hid (MadeB w (twoL [(l.length : Int)] ++ pairsL l) (.returned u4) wr) := Lib.hid ⟨_, rfl, hown.less HAL.out.size, HAL.out.trans hfr⟩
      clear hown hfr
      go_wp2
      go_ret
      exact HQ.out
end Go.Proofs.YtgpohemcfgepeaaGreat

namespace Go.Proofs.YtgpohemcfgepeaaGreat
open Go.RowKit Go.MapKept
structure Target (m : Int → Option (List UInt8)) (T : List UInt8) : Prop where
  len : T.length = 1024
  fit : ∀ k b, m k = some b → ∃ n : Nat, k = n ∧ n < 1024 ∧ n + b.length ≤ 1024 ∧ ∀ j, n ≤ j → j < n + b.length → T[j]? = b[j - n]?
  zero : ∀ j : Nat, j < 1024 → (∀ (k : Int) b, m k = some b → ¬ (k ≤ j ∧ (j : Int) < k + b.length)) → T[j]? = some 0
def Cov (m : Int → Option (List UInt8)) (es : Array MapEntry) (seen : Array Nat) (j : Nat) : Prop :=
  ∃ x ∈ es.toList, x.born ∈ seen.toList ∧ ∃ (k : Int) (b : List UInt8), x.key = .int .i64 k ∧ m k = some b ∧ k ≤ j ∧ (j : Int) < k + b.length
structure SoFar (m : Int → Option (List UInt8)) (T : List UInt8) (es : Array MapEntry) (seen : Array Nat) (cur : List UInt8) : Prop where
  len : cur.length = 1024
  cov : ∀ j, j < 1024 → Cov m es seen j → cur[j]? = T[j]?
  non : ∀ j, j < 1024 → ¬ Cov m es seen j → cur[j]? = some 0
def spl (cur : List UInt8) (n : Nat) (b : List UInt8) : List UInt8 := cur.take n ++ b ++ cur.drop (n + b.length)
theorem spl_length {cur b : List UInt8} {n : Nat} (h : n + b.length ≤ cur.length) : (spl cur n b).length = cur.length := by
  unfold spl; simp; omega
theorem spl_at {cur b : List UInt8} {n : Nat} (h : n + b.length ≤ cur.length) (j : Nat) : (spl cur n b)[j]? = if n ≤ j ∧ j < n + b.length then b[j - n]? else cur[j]? := by
  unfold spl
  have ht : (cur.take n).length = n := by rw [List.length_take]; omega
  by_cases h1 : j < n
  · rw [if_neg (by omega), List.append_assoc, List.getElem?_append_left (by omega), List.getElem?_take_of_lt h1]
  · by_cases h2 : j < n + b.length
    · rw [if_pos ⟨by omega, h2⟩, List.getElem?_append_left (by rw [List.length_append]; omega), List.getElem?_append_right (by omega), ht]
    · rw [if_neg (by omega), List.getElem?_append_right (by rw [List.length_append]; omega), List.length_append, ht, List.getElem?_drop]
      congr 1; omega
theorem spl_map (cur : List UInt8) (n : Nat) (b : List UInt8) : splicedAt (cur.map byteV) n (b.map byteV) = (spl cur n b).map byteV := by
  unfold splicedAt spl
  rw [List.map_append, List.map_append, List.map_take, List.map_drop, List.length_map]
theorem born_uniq {es : Array MapEntry} {clock : Nat} (hs : Stamped es clock) {y e : MapEntry} (hy : y ∈ es.toList) (he : e ∈ es.toList) (hyb : y.born = e.born) : y = e := by
  obtain ⟨i, hi⟩ := List.mem_iff_getElem?.1 hy
  obtain ⟨i', hi'⟩ := List.mem_iff_getElem?.1 he
  have hnd := hs.2.1
  rw [List.Nodup, List.pairwise_iff_getElem] at hnd
  obtain ⟨hl, hv⟩ := List.getElem?_eq_some_iff.1 hi
  obtain ⟨hl', hv'⟩ := List.getElem?_eq_some_iff.1 hi'
  rcases Nat.lt_trichotomy i i' with hlt | rfl | hlt
  · exact (hnd i i' (by simpa using hl) (by simpa using hl') hlt (by rw [List.getElem_map, List.getElem_map, hv, hv', hyb])).elim
  · rw [← hv, ← hv']
  · exact (hnd i' i (by simpa using hl') (by simpa using hl) hlt (by rw [List.getElem_map, List.getElem_map, hv, hv', hyb])).elim
theorem SoFar.start {m : Int → Option (List UInt8)} {T : List UInt8} {es : Array MapEntry} : SoFar m T es #[] (List.replicate 1024 0) :=
  ⟨List.length_replicate, fun j _ ⟨_, _, h, _⟩ => by simp at h, fun j hj _ => by rw [List.getElem?_replicate, if_pos hj]⟩
theorem SoFar.step {m : Int → Option (List UInt8)} {T : List UInt8} {es : Array MapEntry} {clock : Nat} {seen : Array Nat} {cur : List UInt8} (h : SoFar m T es seen cur) (ht : Target m T) (hs : Stamped es clock)
    {e : MapEntry} (he : e ∈ es.toList) {n : Nat} (hk : e.key = .int .i64 n) {b : List UInt8} (hb : m n = some b) (hn : n + b.length ≤ 1024) : SoFar m T es (seen.push e.born) (spl cur n b) := by
  have hlen := h.len
  have hcv : ∀ j, Cov m es (seen.push e.born) j ↔ Cov m es seen j ∨ (n ≤ j ∧ j < n + b.length) := by
    intro j
    constructor
    · rintro ⟨x, hx, hxb, k, b', hxk, hmk, h1, h2⟩
      simp only [Array.toList_push, List.mem_append, List.mem_singleton] at hxb
      rcases hxb with hxb | hxb
      · exact .inl ⟨x, hx, hxb, k, b', hxk, hmk, h1, h2⟩
      · have := born_uniq hs hx he hxb
        subst this
        rw [hk] at hxk
        injection hxk with _ hkk
        subst hkk
        rw [hb] at hmk; cases hmk
        exact .inr ⟨by omega, by omega⟩
    · rintro (⟨x, hx, hxb, rest⟩ | ⟨h1, h2⟩)
      · exact ⟨x, hx, by simp only [Array.toList_push, List.mem_append]; exact .inl hxb, rest⟩
      · exact ⟨e, he, by simp, n, b, hk, hb, by omega, by omega⟩
  refine ⟨by rw [spl_length (by omega), hlen], fun j hj hc => ?_, fun j hj hc => ?_⟩
  · rw [spl_at (by omega)]
    by_cases hin : n ≤ j ∧ j < n + b.length
    · rw [if_pos hin]
      obtain ⟨n', hnn, _, _, hT⟩ := ht.fit _ _ hb
      have : n = n' := by omega
      subst this
      exact (hT j hin.1 hin.2).symm
    · rw [if_neg hin]
      exact h.cov j hj (((hcv j).1 hc).resolve_right hin)
  · rw [hcv] at hc
    rw [spl_at (by omega), if_neg (fun hin => hc (.inr hin))]
    exact h.non j hj (fun hc' => hc (.inl hc'))
theorem SoFar.end {m : Int → Option (List UInt8)} {T : List UInt8} {es : Array MapEntry} {seen : Array Nat} {cur : List UInt8} (h : SoFar m T es seen cur) (ht : Target m T)
    (hall : ∀ x ∈ es.toList, x.born ∈ seen.toList) (hk : ∀ k b, m k = some b → ∃ x ∈ es.toList, x.key = .int .i64 k) : cur = T := by
  apply List.ext_getElem?
  intro j
  by_cases hj : j < 1024
  · by_cases hc : Cov m es seen j
    · exact h.cov j hj hc
    · rw [h.non j hj hc, ht.zero j hj]
      intro k b hm hin
      obtain ⟨x, hx, hxk⟩ := hk k b hm
      exact hc ⟨x, hx, hall x hx, k, b, hxk, hm, hin.1, hin.2⟩
  · rw [List.getElem?_eq_none (by have := h.len; omega), List.getElem?_eq_none (by have := ht.len; omega)]
def Sect (w w' : World) (v : Value) (l : List UInt8) : Prop :=
  ∃ B, v = .slice (some ⟨B, 0, none⟩) 1024 1024 ∧ w.heap.size ≤ B ∧ w'.heap[B]? = some (.cells (l.map byteV).toArray 5 (0, 0)) ∧ l.length = 1024
theorem zb_map : Zb = ((List.replicate 1024 (0 : UInt8)).map byteV).toArray := by unfold Zb; rw [List.map_replicate]
set_option maxRecDepth 100000 in
set_option maxHeartbeats 1000000 in
theorem laid_b {r : Nat} {m : Int → Option (List UInt8)} {T : List UInt8} (w : World) (h : BM [] w r m) (ht : Target m T) :
    Calls Tryz.prog 180 #[.map (some r)] w fun e w' => ∃ v, e = .returned v ∧ Sect w w' v T ∧ Fr [] w w' := by
  have hlt := h.lt
  obtain ⟨f, ⟨es, clock, hb, hs, hks, hf⟩, hc⟩ := h
  have hmk := run_mk1024 w
  have hal := Fr.alloc1 w (.cells Zb 5)
  have hbk := blk_new w (.cells Zb 5)
  obtain ⟨W1, hW1⟩ : ∃ W, w.alloc (.cells Zb 5) = W := ⟨_, rfl⟩
  rw [hW1] at hmk hal hbk
  have hsz1 : W1.heap.size = w.heap.size + 1 := by rw [← hW1]; simp
  obtain ⟨hrg, hit0⟩ := IterG.start (P := Tryz.prog) Tryz.underlying114 (hal.heap hb (by simp)) hs
  have hfr0 : Fr [] w (W1.alloc (.mapIter (some r) clock #[] clock)) := hal.trans (Fr.alloc1 _ _)
  have hbk0 := (Fr.alloc1 W1 (.mapIter (some r) clock #[] clock)).heap hbk (by simp)
  rw [zb_map] at hbk0
  have H0 := Lib.hid (And.intro hit0 (And.intro hfr0 hbk0))
  have HS := Lib.hid hs
  have HK := Lib.hid (And.intro hks (And.intro hf hc))
  have HT := Lib.hid ht
  have HZ := Lib.hid hsz1
  have HLT := Lib.hid hlt
  have hBL : (w.heap.size : Int) = w.heap.size := rfl
  clear hit0 hfr0 hbk0 hs hks hf hc hb hal hbk ht hW1 hlt hsz1 hBL
  go_enter Tryz.func180, Tryz.ntmps180
  go_wp2_with fail
  go_loopw [4, 5] (fun _ _ wr => ∃ seen cur, IterG wr W1.heap.size r es clock seen ∧ Fr [] w wr ∧ wr.heap[w.heap.size]? = some (.cells (cur.map byteV).toArray 5 (0, 0)) ∧ SoFar m T es seen cur ∧ W1.heap.size < wr.heap.size)
    (fun _ _ wr => match wr.heap[W1.heap.size]? with | some (.mapIter _ _ seen _) => (leftOf es seen).size | _ => 0)
  case atStart => exact ⟨#[], _, H0.out.1, H0.out.2.1, H0.out.2.2, SoFar.start, by simp⟩
  case round =>
    obtain ⟨seen, cur, hit, hfr, hblk, hsf, hsz⟩ := hrel
    have hm0 : (match wr.heap[W1.heap.size]? with | some (.mapIter _ _ seen _) => (leftOf es seen).size | _ => 0) = (leftOf es seen).size := by
      obtain ⟨_, _, hi, _⟩ := hit; rw [hi]
    rcases IterG.step (P := Tryz.prog) hit with ⟨hn, hall⟩ | ⟨e, he, hnew, w1, hn, hen, hit1, hfr1, hs1, hless⟩
    · have hfin := hsf.end HT.out hall (fun k b hk => by
        obtain ⟨v, hv, _⟩ := (HK.out.2.2 k).2 b hk
        obtain ⟨x, hx, hxk, _⟩ := (HK.out.2.1 k v).1 hv
        exact ⟨x, hx, hxk⟩)
      subst hfin
      have HF : Hid (Sect w wr (.slice (some ⟨w.heap.size, 0, none⟩) 1024 1024) cur ∧ Fr [] w wr) := Lib.hid ⟨⟨_, rfl, Nat.le_refl _, hblk, hsf.len⟩, hfr⟩
      clear hfr hall hit hm0 hblk hsf
      go_wp2
      go_ret
      exact ⟨_, rfl, HF.out⟩
    · obtain ⟨k, hk⟩ := HK.out.1 e he
      have hfk : f k = some e.val := (HK.out.2.1 k _).2 ⟨e, he, hk, rfl⟩
      obtain ⟨x, hx, hxv⟩ : ∃ x, m k = some x ∧ Bytes [] w e.val x := by
        cases hck : m k with
        | none => rw [(HK.out.2.2 k).1 hck] at hfk; cases hfk
        | some x =>
          obtain ⟨v, hv, hbv⟩ := (HK.out.2.2 k).2 x hck
          rw [hfk] at hv; cases hv
          exact ⟨x, rfl, hbv⟩
      obtain ⟨n, rfl, hn4, hnl, _⟩ := HT.out.fit k x hx
      have hf1 : Fr [W1.heap.size] w w1 := hfr.nil.trans hfr1
      have hf1' : Fr [] w w1 := hf1.drop (by have := HZ.out; simp; omega)
      have hblk1 := hfr1.heap hblk (by have := HZ.out; simp; omega)
      obtain ⟨w2, hcp, hblk2, hf2, hs2⟩ := run_copy_slc (P := Tryz.prog) (dT := 117) (sT := 117) (ty := 3) (o := n) (dLen := 1024 - n) (dCap := 1024 - n) Tryz.underlying117 Tryz.size5
        hblk1 (hxv.kept hf1') (by simp) (by omega) (by have := hsf.len; simp; omega) (by simp [byteV_one])
      rw [spl_map] at hblk2
      have hit2 := hit1.kept hf2 (by have := HZ.out; simp; omega) (by have := HLT.out; simp; omega)
      have hm2 : (match w2.heap[W1.heap.size]? with | some (.mapIter _ _ seen _) => (leftOf es seen).size | _ => 0) = (leftOf es (seen.push e.born)).size := by
        obtain ⟨_, _, hi, _⟩ := hit2; rw [hi]
      have HF := Lib.hid (And.intro hit2 (And.intro (hf1'.andThen hf2 (by simp) : Fr [] w w2) (And.intro hblk2 (And.intro (hsf.step HT.out HS.out he hk hx hnl) (by omega : W1.heap.size < w2.heap.size)))))
      have HM := Lib.hid (And.intro hm0 (And.intro hm2 hless))
      rw [hk] at hn hen
      have hn1 : (0 : Int) ≤ n := by omega
      have hn2 : (n : Int) < 1024 := by omega
      have hn3 : ¬ 1024 = n := by omega
      generalize x.length = xl at *
      clear hm0 hm2 hless hit2 hblk2 hf2 hs2 hxv hf1 hx hfk hk he hnew hit hfr hsz hit1 hfr1 hs1 hf1' hblk hblk1 hsf hnl
      go_wp2_with fail
      go_roundw
      case rel => exact ⟨_, _, HF.out⟩
      case measure => rw [HM.out.1, HM.out.2.1]; exact HM.out.2.2
end Go.Proofs.YtgpohemcfgepeaaGreat

namespace Go.Proofs.YtgpohemcfgepeaaGreat
open Go.RowKit Go.MapKept
def PageD.okAt (p : PageD) (s : Int) : Bool := p.check && (if p.kind = 4 then s == 0 || s == 1 else placeB s)
def PageD.text (p : PageD) (s : Int) : List UInt8 := [u8I p.kind] ++ twoL [s] ++ p.body
def encBad (w : World) (e : Ending) (w' : World) : Prop := e = .returned (.tuple #[.slice none 0 0, .int .i64 50]) ∧ Fr [] w w'
set_option maxRecDepth 100000 in
set_option maxHeartbeats 2000000 in
theorem enc_bad {p : PageD} {s : Int} {pa ka da ga : Option Addr} {pc kc dc gc : Nat} (w : World)
    (h : PageIn [] w p (.slice pa p.pairs.length pc) (.slice ka p.keys.length kc) (.slice da p.kids.length dc) (.slice ga p.pages.length gc)) (hs : p.small) (hb : p.okAt s = false) :
    Calls Tryz.prog 133 #[.int .i64 s, .agg (pageCells p (.slice pa p.pairs.length pc) (.slice ka p.keys.length kc) (.slice da p.kids.length dc) (.slice ga p.pages.length gc)).toArray] w (encBad w) := by
  have HAL := Lib.hid (Fr.alloc1 w (.cells (pageCells p (.slice pa p.pairs.length pc) (.slice ka p.keys.length kc) (.slice da p.kids.length dc) (.slice ga p.pages.length gc)).toArray 90))
  have HCK := Lib.hid (check_raw (b := p.check) _ (h.kept HAL.out) hs rfl)
  have HX : Hid (p.check = true → p.kind = 4 → ¬ (s = 0) ∧ ¬ (s = 1)) := Lib.hid (by
    unfold PageD.okAt at hb
    intro hc h4
    simpa [hc, h4] using hb)
  have HY : Hid (p.check = true → p.kind ≠ 4 → placeB s = false) := Lib.hid (by
    unfold PageD.okAt at hb
    intro hc h4
    simpa [hc, h4] using hb)
  clear h hs hb
  generalize p.check = ck at *
  unfold pageCells at *
  generalize p.kind = kd at *
  cases ck
  · go_enter Tryz.func133, Tryz.ntmps133
    go_wp2_with fail
    with_reducible refine HCK.out.mono ?_
    rintro e w1 ⟨rfl, hf1⟩
    have HQ : Hid (encBad w (.returned (.tuple #[.slice none 0 0, .int .i64 50])) w1) := Lib.hid ⟨rfl, HAL.out.trans hf1⟩
    clear hf1
    unfold errB
    go_wp2
    go_ret2
    exact HQ.out
  · by_cases k4 : kd = 4
    · have HX2 := HX.out rfl k4
      subst k4
      obtain ⟨s0, s1⟩ := HX2
      go_enter Tryz.func133, Tryz.ntmps133
      go_wp2_with fail
      with_reducible refine HCK.out.mono ?_
      rintro e w1 ⟨rfl, hf1⟩
      have HQ : Hid (encBad w (.returned (.tuple #[.slice none 0 0, .int .i64 50])) w1) := Lib.hid ⟨rfl, HAL.out.trans hf1⟩
      clear hf1
      unfold errB
      go_wp2
      go_ret2
      exact HQ.out
    · have hk4 : (kd == 4) = false := by simpa using k4
      have hk5 : (!kd == 4) = true := by rw [hk4]; rfl
      have HP := Lib.hid (fun w' => place_k (b := false) s w' (HY.out rfl k4))
      go_enter Tryz.func133, Tryz.ntmps133
      go_wp2_with fail
      with_reducible refine HCK.out.mono ?_
      rintro e w1 ⟨rfl, hf1⟩
      have HQ : Hid (encBad w (.returned (.tuple #[.slice none 0 0, .int .i64 50])) w1) := Lib.hid ⟨rfl, HAL.out.trans hf1⟩
      clear hf1
      unfold errB
      go_wp2_with (go_at_call 126; refine (HP.out _).mono ?_; rintro e w1 ⟨rfl, rfl⟩)
      go_ret2
      exact HQ.out
end Go.Proofs.YtgpohemcfgepeaaGreat

namespace Go.Proofs.YtgpohemcfgepeaaGreat
open Go.RowKit Go.MapKept
theorem pgCells {w' : World} {b : Nat} {kd nx ep rt dp ct hg : Int} {pa ka da ga : Option Addr} {pl kl dl gl pc kc dc gc : Nat} (h : w'.heap[b]? = some (.cells #[.int .i64 kd, .slice pa pl pc, .slice ka kl kc, .slice da dl dc, .slice ga gl gc, .int .i64 nx, .int .u64 ep, .int .i64 rt, .int .i64 dp, .int .i64 ct, .int .i64 hg] 90 (0, 0))) :
    w'.cell? ⟨b, 0, none⟩ = some (.int .i64 kd) ∧ w'.cell? ⟨b, 1, none⟩ = some (.slice pa pl pc) ∧ w'.cell? ⟨b, 2, none⟩ = some (.slice ka kl kc) ∧ w'.cell? ⟨b, 3, none⟩ = some (.slice da dl dc) ∧ w'.cell? ⟨b, 4, none⟩ = some (.slice ga gl gc) ∧ w'.cell? ⟨b, 5, none⟩ = some (.int .i64 nx) ∧ w'.cell? ⟨b, 6, none⟩ = some (.int .u64 ep) ∧ w'.cell? ⟨b, 7, none⟩ = some (.int .i64 rt) ∧ w'.cell? ⟨b, 8, none⟩ = some (.int .i64 dp) ∧ w'.cell? ⟨b, 9, none⟩ = some (.int .i64 ct) ∧ w'.cell? ⟨b, 10, none⟩ = some (.int .i64 hg) := by
  have c0 := blk_cell h 0
  have c1 := blk_cell h 1
  have c2 := blk_cell h 2
  have c3 := blk_cell h 3
  have c4 := blk_cell h 4
  have c5 := blk_cell h 5
  have c6 := blk_cell h 6
  have c7 := blk_cell h 7
  have c8 := blk_cell h 8
  have c9 := blk_cell h 9
  have c10 := blk_cell h 10
  simp only [List.getElem?_toArray, List.getElem?_cons_zero, List.getElem?_cons_succ] at c0 c1 c2 c3 c4 c5 c6 c7 c8 c9 c10
  exact ⟨c0, c1, c2, c3, c4, c5, c6, c7, c8, c9, c10⟩
theorem ownsFresh (w w' : World) (x : Int) (hf : Fr [] (w.alloc (.cells #[.int .u8 (IntKind.u8.wrap x)] 5)) w') : OwnB w w' (.slice (some ⟨w.heap.size, 0, none⟩) 1 1) [u8I x] := by
  have e : IntKind.u8.wrap x = x % 256 := rfl
  refine ⟨by simp, .inr ⟨_, 1, #[.int .u8 (IntKind.u8.wrap x)], rfl, Nat.le_refl _, hf.heap (blk_new w _) (by simp), Nat.le_refl _, by unfold maxLen; omega, by simp, ?_⟩⟩
  simp [byteV_u8I, e]
theorem encA {w1 w2 : World} {kd s : Int} {v2 : Value} {l : List UInt8} (ho : OwnB ((w1.alloc (.cells #[.int .u8 (IntKind.u8.wrap kd)] 5)).alloc (.cells #[.int .i64 s] 3)).drew w2 v2 l)
    (hf : Fr [] ((w1.alloc (.cells #[.int .u8 (IntKind.u8.wrap kd)] 5)).alloc (.cells #[.int .i64 s] 3)).drew w2) : Fr [] w1 w2 ∧ OwnB w1 w2 v2 l ∧ OwnB w1 w2 (.slice (some ⟨w1.heap.size, 0, none⟩) 1 1) [u8I kd] := by
  have h1 := Fr.alloc1 w1 (.cells #[.int .u8 (IntKind.u8.wrap kd)] 5)
  have h2 := (Fr.alloc1 (w1.alloc (.cells #[.int .u8 (IntKind.u8.wrap kd)] 5)) (.cells #[.int .i64 s] 3)).drew
  exact ⟨(h1.trans h2).trans hf, ho.less (h1.trans h2).size, ownsFresh w1 w2 kd (h2.trans hf)⟩
theorem encB {w1 w2 : World} {kd s : Int} {v2 : Value} {l : List UInt8} (ho : OwnB ((w1.alloc (.cells #[.int .i64 s] 3)).alloc (.cells #[.int .u8 (IntKind.u8.wrap kd)] 5)).drew w2 v2 l)
    (hf : Fr [] ((w1.alloc (.cells #[.int .i64 s] 3)).alloc (.cells #[.int .u8 (IntKind.u8.wrap kd)] 5)).drew w2) : Fr [] w1 w2 ∧ OwnB w1 w2 v2 l ∧ OwnB w1 w2 (.slice (some ⟨w1.heap.size + 1, 0, none⟩) 1 1) [u8I kd] := by
  have h1 := Fr.alloc1 w1 (.cells #[.int .i64 s] 3)
  have h2 := (Fr.alloc1 (w1.alloc (.cells #[.int .i64 s] 3)) (.cells #[.int .u8 (IntKind.u8.wrap kd)] 5)).drew
  have h3 := (ownsFresh (w1.alloc (.cells #[.int .i64 s] 3)) w2 kd ((Fr.refl [] _).drew.trans hf)).less h1.size
  have e : (w1.alloc (.cells #[.int .i64 s] 3)).heap.size = w1.heap.size + 1 := by simp
  rw [e] at h3
  exact ⟨(h1.trans h2).trans hf, ho.less (h1.trans h2).size, h3⟩
theorem encC {w1 w2 : World} {kd s : Int} {v2 : Value} {l : List UInt8} (ho : OwnB (w1.alloc (.cells #[.int .i64 s] 3)).drew w2 v2 l)
    (hf : Fr [] (w1.alloc (.cells #[.int .i64 s] 3)).drew w2) : Fr [] w1 w2 ∧ OwnB w1 w2 v2 l ∧ Fr [] w1 (w2.alloc (.cells #[.int .u8 (IntKind.u8.wrap kd)] 5)) ∧
      OwnB w1 (w2.alloc (.cells #[.int .u8 (IntKind.u8.wrap kd)] 5)) v2 l ∧ OwnB w1 (w2.alloc (.cells #[.int .u8 (IntKind.u8.wrap kd)] 5)) (.slice (some ⟨w2.heap.size, 0, none⟩) 1 1) [u8I kd] := by
  have h1 := (Fr.alloc1 w1 (.cells #[.int .i64 s] 3)).drew
  have h2 := Fr.alloc1 w2 (.cells #[.int .u8 (IntKind.u8.wrap kd)] 5)
  exact ⟨h1.trans hf, ho.less h1.size, (h1.trans hf).trans h2, OwnB.less (ownsKept ho h2 (by simp)) h1.size, (ownsFresh w2 _ kd (Fr.refl _ _)).less (h1.trans hf).size⟩
theorem put1 {w : World} {v : Value} {l : List UInt8} (h : Bytes [] w v l) :
    ∃ w3, (Instr.mapUpdate 114 (.map (some w.heap.size)) (.int .i64 0) v).run Tryz.prog (w.alloc (.map #[] 0)) = .ok () w3 ∧ BM [] w3 w.heap.size (upd (fun _ => none) 0 (some l)) ∧ Fr [] w w3 := by
  have hm : BM [w.heap.size] (w.alloc (.map #[] 0)) w.heap.size (fun _ => none) := BM.made (MapG.made w)
  have hb : Bytes [w.heap.size] (w.alloc (.map #[] 0)) v l := ((h.more (S' := [w.heap.size]) (by simp)).kept (Fr.alloc1 w _).nil)
  obtain ⟨w3, hr, hb3, hf, _⟩ := hm.put (by simp) 0 hb
  exact ⟨w3, hr, hb3.more (by simp), ((Fr.alloc1 w (.map #[] 0)).nil.trans hf).drop (by simp)⟩
theorem target_one {l : List UInt8} (h : l.length ≤ 1024) : Target (upd (fun _ => none) 0 (some l)) (pad l) := by
  refine ⟨pad_length h, fun k b hk => ?_, fun j hj hn => ?_⟩
  · by_cases h0 : k = 0
    · subst h0
      rw [upd_same] at hk
      cases hk
      refine ⟨0, rfl, by omega, by omega, fun j _ hj => ?_⟩
      unfold pad
      rw [List.getElem?_append_left (by omega), Nat.sub_zero]
    · rw [upd_ne _ _ h0] at hk; cases hk
  · have := hn 0 l (upd_same _ _ _)
    have hl : l.length ≤ j := by omega
    unfold pad
    rw [List.getElem?_append_right hl, List.getElem?_replicate, if_pos (by omega)]
def plainL (tx : List UInt8) : List UInt8 := spl (pad tx) 1016 (eightL (crcI ((pad tx).take 1016)))
theorem plainL_length {tx : List UInt8} (h : tx.length ≤ 1024) : (plainL tx).length = 1024 := by
  unfold plainL
  rw [spl_length (by rw [eightL_length, pad_length h]; omega), pad_length h]
def encGood (w : World) (l : List UInt8) (e : Ending) (w' : World) : Prop := ∃ v, e = .returned (.tuple #[v, .int .i64 0]) ∧ Sect w w' v l ∧ Fr [] w w'
theorem copy_last {w : World} {B : Nat} {cur l : List UInt8} {v : Value} (h : w.heap[B]? = some (.cells (cur.map byteV).toArray 5 (0, 0))) (hc : cur.length = 1024) (hv : Bytes [] w v l) (hl : l.length = 8) :
    ∃ w2, (Builtin.copy_ #[117, 117] 3 #[.slice (some ⟨B, 1016, none⟩) 8 8, v]).run Tryz.prog w = .ok (.int .i64 8) w2 ∧ w2.heap[B]? = some (.cells ((spl cur 1016 l).map byteV).toArray 5 (0, 0)) ∧ Fr [B] w w2 := by
  have hv' : Slc [] w v 8 (l.map byteV) := by have := hv; unfold Bytes at this; rwa [hl] at this
  obtain ⟨w2, hcp, hblk2, hf2, _⟩ := run_copy_slc (P := Tryz.prog) (dT := 117) (sT := 117) (ty := 3) (o := 1016) (dLen := 8) (dCap := 8) Tryz.underlying117 Tryz.size5
        h hv' (by simp [hl]) (Nat.le_refl _) (by simp [hc]) (by simp [byteV_one])
  dsimp only at hblk2
  rw [spl_map] at hblk2
  exact ⟨w2, hcp, hblk2, hf2⟩
theorem step_append_B {w W0 : World} {ops : Array Oper} {o : Oper} {a : Act} {K : Act → World → Prop} {Q : Exit → Act → World → Prop} {E : Prop} (hgd : o.guard = none) (s x : Operand)
    (ho : o.op = .call { callee := .builtin .append, args := #[s, x], argTypes := #[117, 117] }) {v vx : Value} {l m : List UInt8} (hs : a.eval s = v) (hxe : a.eval x = vx)
    (hown : OwnB W0 w v l) (hx : Bytes [] w vx m) (hl : l.length + m.length ≤ 10000000) (hsz : W0.heap.size ≤ w.heap.size)
    (h : ∀ v' w', OwnB W0 w' v' (l ++ m) → Fr v.ownBlock.toList w w' → K (a.put o.dst v') w') :
    if Region.wanted o (yielded ops a.tmps) = true then Oper.wp Tryz.prog o a w K Q else E := by
  obtain ⟨v', w', hr, ho', hf⟩ := hown.append hx hl hsz o.type
  exact step_append_run hgd s x _ ho (by rw [hs, hxe]; exact hr) (h v' w' ho' hf)
end Go.Proofs.YtgpohemcfgepeaaGreat

namespace Go.Proofs.YtgpohemcfgepeaaGreat
open Go.RowKit Go.MapKept
set_option maxRecDepth 100000 in
set_option maxHeartbeats 4000000 in
theorem enc_plain {p : PageD} {s : Int} {pa ka da ga : Option Addr} {pc kc dc gc : Nat} (w : World)
    (h : PageIn [] w p (.slice pa p.pairs.length pc) (.slice ka p.keys.length kc) (.slice da p.kids.length dc) (.slice ga p.pages.length gc)) (hs : p.small) (hb : p.okAt s = true) (k4 : p.kind ≠ 4)
    (HB : ∀ w1, Fr [] w w1 → Calls Tryz.prog 178 #[.agg (pageCells p (.slice pa p.pairs.length pc) (.slice ka p.keys.length kc) (.slice da p.kids.length dc) (.slice ga p.pages.length gc)).toArray] w1 (MadeB w1 p.body)) (hlen : p.body.length ≤ 1000) :
    Calls Tryz.prog 133 #[.int .i64 s, .agg (pageCells p (.slice pa p.pairs.length pc) (.slice ka p.keys.length kc) (.slice da p.kids.length dc) (.slice ga p.pages.length gc)).toArray] w (encGood w (plainL (p.text s))) := by
  have HAL := Lib.hid (Fr.alloc1 w (.cells (pageCells p (.slice pa p.pairs.length pc) (.slice ka p.keys.length kc) (.slice da p.kids.length dc) (.slice ga p.pages.length gc)).toArray 90))
  have hbk := blk_new w (.cells (pageCells p (.slice pa p.pairs.length pc) (.slice ka p.keys.length kc) (.slice da p.kids.length dc) (.slice ga p.pages.length gc)).toArray 90)
  have hok : p.check = true ∧ placeB s = true := by
    unfold PageD.okAt at hb
    simpa [k4] using hb
  have HCK := Lib.hid (check_raw (b := true) _ (h.kept HAL.out) hs hok.1)
  have HP := Lib.hid (fun w' => place_k (b := true) s w' hok.2)
  have HBK := Lib.hid hbk
  have HBO := Lib.hid HB
  have HLN := Lib.hid hlen
  clear h hs hb hok hbk HB hlen
  unfold PageD.text at *
  generalize p.body = bd at *
  unfold pageCells at *
  obtain ⟨kd, prs, ks, ds, gs, nx, ep, rt, dp, ct, hg⟩ := p
  dsimp only at *
  generalize prs.length = pl at *
  generalize ks.length = kl at *
  generalize ds.length = dl at *
  generalize gs.length = gl at *
  obtain ⟨tx, htx⟩ : ∃ tx, [u8I kd] ++ twoL [s] ++ bd = tx := ⟨_, rfl⟩
  rw [htx]
  have hlx : tx.length ≤ 1003 := by rw [← htx]; have := HLN.out; rw [List.length_append, List.length_append, twoL_length]; simp; omega
  have HLX := Lib.hid hlx
  have HTX := Lib.hid htx
  clear htx hlx
  obtain ⟨pl2, hpl⟩ : ∃ l, plainL tx = l := ⟨_, rfl⟩
  rw [hpl]
  have HPL := Lib.hid hpl
  clear hpl
  have hk4 : (kd == 4) = false := by simpa using k4
  have hk5 : (!kd == 4) = true := by rw [hk4]; rfl
  go_enter Tryz.func133, Tryz.ntmps133
  go_wp2_with fail
  with_reducible refine HCK.out.mono ?_
  rintro e w1 ⟨rfl, hf1⟩
  have hb1 := hf1.heap HBK.out (by simp)
  have HC1 := Lib.hid (pgCells hb1)
  have HB1 := Lib.hid hb1
  obtain ⟨c0, c1, c2, c3, c4, c5, c6, c7, c8, c9, c10⟩ := HC1.out
  have HF1 := Lib.hid (HAL.out.trans hf1)
  clear hf1 hb1 HCK HBK HAL
  unfold errB
  go_upto_region 4 with (go_at_call 126; refine (HP.out _).mono ?_; rintro e w1 ⟨rfl, rfl⟩)
  go_cut [7] from 36 to 46 (fun x wr => OwnB w wr x tx ∧ Fr [] w1 wr)
  case first =>
    have HWA := Lib.hid (((Fr.alloc1 w1 (.cells #[.int .u8 (IntKind.u8.wrap kd)] 5)).trans (Fr.alloc1 _ (.cells #[.int .i64 s] 3))).drew)
    have HWB := Lib.hid (((Fr.alloc1 w1 (.cells #[.int .i64 s] 3)).trans (Fr.alloc1 _ (.cells #[.int .u8 (IntKind.u8.wrap kd)] 5))).drew)
    have HWC := Lib.hid ((Fr.alloc1 w1 (.cells #[.int .i64 s] 3)).drew)
    have hia := (ints_single (w1.alloc (.cells #[.int .u8 (IntKind.u8.wrap kd)] 5)) s 3).kept (Fr.refl [] _).drew
    rw [show (w1.alloc (.cells #[.int .u8 (IntKind.u8.wrap kd)] 5)).heap.size = w1.heap.size + 1 by simp] at hia
    have HIA := Lib.hid hia
    clear hia
    have HIB := Lib.hid ((ints_single w1 s 3).kept (Fr.alloc1 _ (.cells #[.int .u8 (IntKind.u8.wrap kd)] 5)).drew)
    have HIC := Lib.hid ((ints_single w1 s 3).kept (Fr.refl [] _).drew)
    go_region_held3 (fun w' => w'.cell? ⟨w.heap.size, 0, none⟩ = some (.int .i64 kd) ∧ w'.cell? ⟨w.heap.size, 1, none⟩ = some (.slice pa pl pc) ∧ w'.cell? ⟨w.heap.size, 2, none⟩ = some (.slice ka kl kc) ∧ w'.cell? ⟨w.heap.size, 3, none⟩ = some (.slice da dl dc) ∧ w'.cell? ⟨w.heap.size, 4, none⟩ = some (.slice ga gl gc) ∧ w'.cell? ⟨w.heap.size, 5, none⟩ = some (.int .i64 nx) ∧ w'.cell? ⟨w.heap.size, 6, none⟩ = some (.int .u64 ep) ∧ w'.cell? ⟨w.heap.size, 7, none⟩ = some (.int .i64 rt) ∧ w'.cell? ⟨w.heap.size, 8, none⟩ = some (.int .i64 dp) ∧ w'.cell? ⟨w.heap.size, 9, none⟩ = some (.int .i64 ct) ∧ w'.cell? ⟨w.heap.size, 10, none⟩ = some (.int .i64 hg)) (first | exact HC1.out | exact HC2.out | exact HC2b.out | exact HC3.out | exact HC4.out | exact HC5.out | exact ⟨by assumption, by assumption, by assumption, by assumption, by assumption, by assumption, by assumption, by assumption, by assumption, by assumption, by assumption⟩ | go_keep)
      (first
      | (go_at_call 177
         with_reducible refine (two_k _ HIA.out (by simp)).mono ?_
         rintro e w2 ⟨v2, rfl, ho2, hf2⟩
         have HX := Lib.hid (encA ho2 hf2)
         have HC2 := Lib.hid (pgCells (HX.out.1.heap HB1.out (by simp)))
         clear ho2 hf2)
      | (go_at_call 177
         with_reducible refine (two_k _ HIB.out (by simp)).mono ?_
         rintro e w2 ⟨v2, rfl, ho2, hf2⟩
         have HX := Lib.hid (encB ho2 hf2)
         have HC2 := Lib.hid (pgCells (HX.out.1.heap HB1.out (by simp)))
         clear ho2 hf2)
      | (go_at_call 177
         with_reducible refine (two_k _ HIC.out (by simp)).mono ?_
         rintro e w2 ⟨v2, rfl, ho2, hf2⟩
         have HX := Lib.hid (encC (kd := kd) ho2 hf2)
         have HC2 := Lib.hid (pgCells (HX.out.1.heap HB1.out (by simp)))
         have HC2b := Lib.hid (pgCells (HX.out.2.2.1.heap HB1.out (by simp)))
         clear ho2 hf2)
      | (refine step_append_B (v := .slice (some ⟨w1.heap.size, 0, none⟩) 1 1) (vx := v2) rfl _ _ rfl rfl rfl HX.out.2.2 (HX.out.2.1.bytes [] (by simp)) (by rw [twoL_length]; simp) HX.out.1.size ?_
         intro v3 w3 ho3 hf3
         have HF3 := Lib.hid (HX.out.2.2.after HX.out.1 hf3)
         have HO3 := Lib.hid ho3
         have HC3 := Lib.hid (pgCells (HF3.out.heap HB1.out (by simp)))
         clear ho3 hf3)
      | (refine step_append_B (v := .slice (some ⟨w1.heap.size + 1, 0, none⟩) 1 1) (vx := v2) rfl _ _ rfl rfl rfl HX.out.2.2 (HX.out.2.1.bytes [] (by simp)) (by rw [twoL_length]; simp) HX.out.1.size ?_
         intro v3 w3 ho3 hf3
         have HF3 := Lib.hid (HX.out.2.2.after HX.out.1 hf3)
         have HO3 := Lib.hid ho3
         have HC3 := Lib.hid (pgCells (HF3.out.heap HB1.out (by simp)))
         clear ho3 hf3)
      | (refine step_append_B (v := .slice (some ⟨w2.heap.size, 0, none⟩) 1 1) (vx := v2) rfl _ _ rfl rfl rfl HX.out.2.2.2.2 (HX.out.2.2.2.1.bytes [] (by simp)) (by rw [twoL_length]; simp) HX.out.2.2.1.size ?_
         intro v3 w3 ho3 hf3
         have HF3 := Lib.hid (HX.out.2.2.2.2.after HX.out.2.2.1 hf3)
         have HO3 := Lib.hid ho3
         have HC3 := Lib.hid (pgCells (HF3.out.heap HB1.out (by simp)))
         clear ho3 hf3)
      | (go_at_call 178
         with_reducible refine (HBO.out _ (HF1.out.trans HF3.out)).mono ?_
         rintro e w4 ⟨v4, rfl, ho4, hf4⟩
         have HO4 : Hid (OwnB w1 w4 v3 ([u8I kd] ++ twoL [s])) := Lib.hid (ownsKept HO3.out hf4 (by simp))
         have HV4 := Lib.hid (ho4.bytes [] (by simp))
         have HF4 := Lib.hid (HF3.out.trans hf4)
         have HC4 := Lib.hid (pgCells (HF4.out.heap HB1.out (by simp)))
         clear ho4 hf4)
      | (refine step_append_B (v := v3) (vx := v4) rfl _ _ rfl rfl rfl HO4.out HV4.out (by have := HLN.out; rw [List.length_append, twoL_length]; simp; omega) HF4.out.size ?_
         intro v5 w5 ho5 hf5
         have HF5 := Lib.hid (HO4.out.after HF4.out hf5)
         have HO5 := Lib.hid ho5
         have HC5 := Lib.hid (pgCells (HF5.out.heap HB1.out (by simp)))
         clear ho5 hf5))
    all_goals
      have HQ := Lib.hid (And.intro (HO5.out.less HF1.out.size) HF5.out)
      clear HO5 HF5
      go_wp2_with fail
      go_meet
      rw [HTX.out] at HQ
      exact HQ.out
  case rest =>
    obtain ⟨hown, hfr⟩ := hcut
    have hlen := HLX.out
    have cc := hfr.cellSome c0 (by simp)
    have HC0 := Lib.hid c0
    clear c0 c1 c2 c3 c4 c5 c6 c7 c8 c9 c10
    obtain ⟨W3, hmu, hbm, hf3⟩ := put1 (hown.bytes [] (by simp))
    have HLD := Lib.hid (laid_b W3 hbm (target_one (by omega)))
    have HF3 := Lib.hid (hfr.trans hf3)
    clear hown hfr hbm hf3 hlen HC1
    have hmm := @run_makeMap Tryz.prog
    go_wp2_with fail
    with_reducible refine HLD.out.mono ?_
    rintro e w4 ⟨v4, rfl, hs4, hf4⟩
    obtain ⟨B, rfl, hB, hblk, hTl⟩ := hs4
    have hbt : Bytes [] w4 (.slice (some ⟨B, 0, none⟩) 1024 1024) (pad tx) := by
      have := Slc.ofBlock (S := []) hblk (by simp) 1024 1024 (Nat.le_refl _)
      unfold Bytes
      rw [hTl]
      simpa [hTl] using this
    have ht6 := (hbt.take (k := 1016) (by omega)).kept (Fr.refl [] _).drew
    have HSM := Lib.hid (sum_k w4.drew ht6 (by rw [List.length_take]; omega))
    have HCB := Lib.hid (crcI_bd ((pad tx).take 1016))
    have HPE : Hid (plainL tx = spl (pad tx) 1016 (eightL (crcI ((pad tx).take 1016)))) := Lib.hid rfl
    generalize crcI ((pad tx).take 1016) = cv at *
    have HBK4 := Lib.hid hblk
    have HTL := Lib.hid hTl
    have cc4 := (HF3.out.trans hf4)
    have HF4 := Lib.hid (HF3.out.trans hf4)
    have hB2 : w1.heap.size ≤ B := by have := HF3.out.size; omega
    have HB2 := Lib.hid hB2
    have cp4 := HF4.out.cellSome HC0.out (by simp)
    clear hbt ht6 hblk hTl cc4 hB2 cc hf4 hB hmu hmm HLD
    go_upto_region 9 with fail
    go_region_held3 (fun w' => w'.cell? ⟨w.heap.size, 0, none⟩ = some (.int .i64 kd)) (first | assumption | go_keep)
      (first
      | (go_at_call 181
         with_reducible refine HSM.out.mono ?_
         rintro e w6 ⟨rfl, hf6⟩
         have hf6' := hf6.ofDrew
         have HF6 := Lib.hid (HF4.out.trans hf6')
         have HBK6 := Lib.hid (hf6'.heap HBK4.out (by simp))
         have cp6 := HF6.out.cellSome HC0.out (by simp)
         clear hf6 hf6')
      | (go_at_call 179
         with_reducible refine (eight_k cv _ HCB.out.1 HCB.out.2).mono ?_
         rintro e w7 ⟨v7, rfl, ho7, hf7⟩
         obtain ⟨w8, hcp, hbk8, hf8⟩ := copy_last (hf7.heap HBK6.out (by simp)) HTL.out (ho7.bytes [] (by simp)) (eightL_length cv)
         have cp7 := (HF6.out.trans hf7).cellSome HC0.out (by simp)
         have HF8 := Lib.hid (((HF6.out.trans hf7).nil.trans hf8).drop (by have := HB2.out; simpa using this))
         have cp8 := HF8.out.cellSome HC0.out (by simp)
         have HBK8 := Lib.hid hbk8
         clear ho7 hf7 hbk8 hf8))
    all_goals
      have HQ : Hid (encGood w pl2 (.returned (.tuple #[.slice (some ⟨B, 0, none⟩) 1024 1024, .int .i64 0])) w8) := Lib.hid (by
        rw [← HPL.out]
        refine ⟨_, rfl, ⟨B, rfl, ?_, ?_, plainL_length (by have := HLX.out; omega)⟩, HF1.out.trans HF8.out⟩
        · have h1 := HF1.out.size; have h2 := HB2.out; omega
        · rw [HPE.out]; exact HBK8.out)
      clear HBK8 HF8 HPE
      go_wp2
      go_ret2
      exact HQ.out
end Go.Proofs.YtgpohemcfgepeaaGreat

namespace Go.Proofs.YtgpohemcfgepeaaGreat
open Go.RowKit Go.MapKept
def superB (e tx : List UInt8) : List UInt8 := e ++ (tx ++ (List.replicate (504 - tx.length) 0 ++ (tx ++ (List.replicate (504 - tx.length) 0 ++ e))))
def superM (e tx : List UInt8) : Int → Option (List UInt8) := upd (upd (upd (upd (fun _ => none) 0 (some e)) 8 (some tx)) 512 (some tx)) 1016 (some e)
theorem superB_length {e tx : List UInt8} (he : e.length = 8) (ht : tx.length ≤ 504) : (superB e tx).length = 1024 := by
  unfold superB
  simp only [List.length_append, List.length_replicate]
  omega
theorem superB_at {e tx : List UInt8} (he : e.length = 8) (ht : tx.length ≤ 504) (j : Nat) (hj : j < 1024) : (superB e tx)[j]? =
    if j < 8 then e[j]? else if j < 8 + tx.length then tx[j - 8]? else if j < 512 then some 0 else if j < 512 + tx.length then tx[j - 512]? else if j < 1016 then some 0 else e[j - 1016]? := by
  unfold superB
  by_cases h1 : j < 8
  · rw [if_pos h1, List.getElem?_append_left (by omega)]
  rw [if_neg h1, List.getElem?_append_right (by omega), he]
  by_cases h2 : j < 8 + tx.length
  · rw [if_pos h2, List.getElem?_append_left (by omega)]
  rw [if_neg h2, List.getElem?_append_right (by omega)]
  by_cases h3 : j < 512
  · rw [if_pos h3, List.getElem?_append_left (by rw [List.length_replicate]; omega), List.getElem?_replicate, if_pos (by omega)]
  rw [if_neg h3, List.getElem?_append_right (by rw [List.length_replicate]; omega), List.length_replicate]
  by_cases h4 : j < 512 + tx.length
  · rw [if_pos h4, List.getElem?_append_left (by omega)]
    exact congrArg (fun n : Nat => tx[n]?) (by omega)
  rw [if_neg h4, List.getElem?_append_right (by omega)]
  by_cases h5 : j < 1016
  · rw [if_pos h5, List.getElem?_append_left (by rw [List.length_replicate]; omega), List.getElem?_replicate, if_pos (by omega)]
  rw [if_neg h5, List.getElem?_append_right (by rw [List.length_replicate]; omega), List.length_replicate]
  exact congrArg (fun n : Nat => e[n]?) (by omega)
theorem superM_at {e tx : List UInt8} {k : Int} {b : List UInt8} (h : superM e tx k = some b) : (k = 0 ∧ b = e) ∨ (k = 8 ∧ b = tx) ∨ (k = 512 ∧ b = tx) ∨ (k = 1016 ∧ b = e) := by
  unfold superM at h
  by_cases h4 : k = 1016
  · subst h4; rw [upd_same] at h; cases h; simp
  rw [upd_ne _ _ h4] at h
  by_cases h3 : k = 512
  · subst h3; rw [upd_same] at h; cases h; simp
  rw [upd_ne _ _ h3] at h
  by_cases h2 : k = 8
  · subst h2; rw [upd_same] at h; cases h; simp
  rw [upd_ne _ _ h2] at h
  by_cases h1 : k = 0
  · subst h1; rw [upd_same] at h; cases h; simp
  rw [upd_ne _ _ h1] at h; cases h
theorem target_super {e tx : List UInt8} (he : e.length = 8) (ht : tx.length ≤ 504) : Target (superM e tx) (superB e tx) := by
  refine ⟨superB_length he ht, fun k b hk => ?_, fun j hj hn => ?_⟩
  · rcases superM_at hk with ⟨rfl, rfl⟩ | ⟨rfl, rfl⟩ | ⟨rfl, rfl⟩ | ⟨rfl, rfl⟩
    · exact ⟨0, rfl, by omega, by omega, fun j _ h => by rw [superB_at he ht j (by omega), if_pos (by omega)]; rfl⟩
    · exact ⟨8, rfl, by omega, by omega, fun j _ h => by rw [superB_at he ht j (by omega), if_neg (by omega), if_pos (by omega)]⟩
    · exact ⟨512, rfl, by omega, by omega, fun j _ h => by rw [superB_at he ht j (by omega), if_neg (by omega), if_neg (by omega), if_neg (by omega), if_pos (by omega)]⟩
    · exact ⟨1016, rfl, by omega, by omega, fun j _ h => by rw [superB_at he ht j (by omega), if_neg (by omega), if_neg (by omega), if_neg (by omega), if_neg (by omega), if_neg (by omega)]⟩
  · have n1 := hn 0 e (by unfold superM; rw [upd_ne _ _ (by omega), upd_ne _ _ (by omega), upd_ne _ _ (by omega), upd_same])
    have n2 := hn 8 tx (by unfold superM; rw [upd_ne _ _ (by omega), upd_ne _ _ (by omega), upd_same])
    have n3 := hn 512 tx (by unfold superM; rw [upd_ne _ _ (by omega), upd_same])
    have n4 := hn 1016 e (by unfold superM; rw [upd_same])
    rw [superB_at he ht j hj, if_neg (by omega), if_neg (by omega)]
    by_cases h3 : j < 512
    · rw [if_pos h3]
    rw [if_neg h3, if_neg (by omega), if_pos (by omega)]
theorem put4 {w : World} {v x : Value} {e tx : List UInt8} (he : Bytes [] w v e) (hx : Bytes [] w x tx) :
    ∃ w1 w2 w3 w4, (Instr.mapUpdate 114 (.map (some w.heap.size)) (.int .i64 0) v).run Tryz.prog (w.alloc (.map #[] 0)) = .ok () w1 ∧
      (Instr.mapUpdate 114 (.map (some w.heap.size)) (.int .i64 8) x).run Tryz.prog w1 = .ok () w2 ∧
      (Instr.mapUpdate 114 (.map (some w.heap.size)) (.int .i64 512) x).run Tryz.prog w2 = .ok () w3 ∧
      (Instr.mapUpdate 114 (.map (some w.heap.size)) (.int .i64 1016) v).run Tryz.prog w3 = .ok () w4 ∧
      BM [] w4 w.heap.size (superM e tx) ∧ Fr [] w w4 := by
  have hm : BM [w.heap.size] (w.alloc (.map #[] 0)) w.heap.size (fun _ => none) := BM.made (MapG.made w)
  have hv0 : Bytes [w.heap.size] (w.alloc (.map #[] 0)) v e := ((he.more (S' := [w.heap.size]) (by simp)).kept (Fr.alloc1 w _).nil)
  have hx0 : Bytes [w.heap.size] (w.alloc (.map #[] 0)) x tx := ((hx.more (S' := [w.heap.size]) (by simp)).kept (Fr.alloc1 w _).nil)
  obtain ⟨w1, r1, b1, f1, _⟩ := hm.put (by simp) 0 hv0
  obtain ⟨w2, r2, b2, f2, _⟩ := b1.put (by simp) 8 (hx0.kept f1)
  obtain ⟨w3, r3, b3, f3, _⟩ := b2.put (by simp) 512 ((hx0.kept f1).kept f2)
  obtain ⟨w4, r4, b4, f4, _⟩ := b3.put (by simp) 1016 (((hv0.kept f1).kept f2).kept f3)
  exact ⟨w1, w2, w3, w4, r1, r2, r3, r4, b4.more (by simp), ((((Fr.alloc1 w (.map #[] 0)).nil.trans f1).trans f2).trans (f3.trans f4)).drop (by simp)⟩
end Go.Proofs.YtgpohemcfgepeaaGreat

namespace Go.Proofs.YtgpohemcfgepeaaGreat
open Go.RowKit Go.MapKept
set_option maxRecDepth 100000 in
set_option maxHeartbeats 4000000 in
theorem enc_super0 {p : PageD} {pa ka da ga : Option Addr} {pc kc dc gc : Nat} (w : World)
    (h : PageIn [] w p (.slice pa p.pairs.length pc) (.slice ka p.keys.length kc) (.slice da p.kids.length dc) (.slice ga p.pages.length gc)) (hs : p.small) (hb : p.okAt 0 = true) (k4 : p.kind = 4) (he0 : 0 ≤ p.epoch) (he1 : p.epoch < 18446744073709551616)
    (HB : ∀ w1, Fr [] w w1 → Calls Tryz.prog 178 #[.agg (pageCells p (.slice pa p.pairs.length pc) (.slice ka p.keys.length kc) (.slice da p.kids.length dc) (.slice ga p.pages.length gc)).toArray] w1 (MadeB w1 p.body)) (hlen : p.body.length ≤ 500) :
    Calls Tryz.prog 133 #[.int .i64 0, .agg (pageCells p (.slice pa p.pairs.length pc) (.slice ka p.keys.length kc) (.slice da p.kids.length dc) (.slice ga p.pages.length gc)).toArray] w (encGood w (superB (eightL p.epoch) (p.text 0))) := by
  have HAL := Lib.hid (Fr.alloc1 w (.cells (pageCells p (.slice pa p.pairs.length pc) (.slice ka p.keys.length kc) (.slice da p.kids.length dc) (.slice ga p.pages.length gc)).toArray 90))
  have hbk := blk_new w (.cells (pageCells p (.slice pa p.pairs.length pc) (.slice ka p.keys.length kc) (.slice da p.kids.length dc) (.slice ga p.pages.length gc)).toArray 90)
  have hok : p.check = true := by
    unfold PageD.okAt at hb
    simpa [k4] using hb
  have HCK := Lib.hid (check_raw (b := true) _ (h.kept HAL.out) hs hok)
  have HBK := Lib.hid hbk
  have HBO := Lib.hid HB
  have HLN := Lib.hid hlen
  clear h hs hb hok hbk HB hlen
  unfold PageD.text at *
  generalize p.body = bd at *
  unfold pageCells at *
  obtain ⟨kd, prs, ks, ds, gs, nx, ep, rt, dp, ct, hg⟩ := p
  dsimp only at *
  generalize prs.length = pl at *
  generalize ks.length = kl at *
  generalize ds.length = dl at *
  generalize gs.length = gl at *
  obtain ⟨tx, htx⟩ : ∃ tx, [u8I kd] ++ twoL [0] ++ bd = tx := ⟨_, rfl⟩
  rw [htx]
  have hlx : tx.length ≤ 503 := by rw [← htx]; have := HLN.out; rw [List.length_append, List.length_append, twoL_length]; simp; omega
  have HLX := Lib.hid hlx
  have HTX := Lib.hid htx
  clear htx hlx
  obtain ⟨pl2, hpl⟩ : ∃ l, superB (eightL ep) tx = l := ⟨_, rfl⟩
  rw [hpl]
  have HPL := Lib.hid hpl
  clear hpl
  have hk4 : (kd == 4) = true := by simpa using k4
  have hk5 : (!kd == 4) = false := by rw [hk4]; rfl
  clear k4
  go_enter Tryz.func133, Tryz.ntmps133
  go_wp2_with fail
  with_reducible refine HCK.out.mono ?_
  rintro e w1 ⟨rfl, hf1⟩
  have hb1 := hf1.heap HBK.out (by simp)
  have HC1 := Lib.hid (pgCells hb1)
  have HB1 := Lib.hid hb1
  obtain ⟨c0, c1, c2, c3, c4, c5, c6, c7, c8, c9, c10⟩ := HC1.out
  have HF1 := Lib.hid (HAL.out.trans hf1)
  clear hf1 hb1 HCK HBK HAL
  unfold errB
  go_upto_region 4 with fail
  go_cut [7] from 36 to 46 (fun x wr => OwnB w wr x tx ∧ Fr [] w1 wr)
  case first =>
    have HWA := Lib.hid (((Fr.alloc1 w1 (.cells #[.int .u8 (IntKind.u8.wrap kd)] 5)).trans (Fr.alloc1 _ (.cells #[.int .i64 0] 3))).drew)
    have HWB := Lib.hid (((Fr.alloc1 w1 (.cells #[.int .i64 0] 3)).trans (Fr.alloc1 _ (.cells #[.int .u8 (IntKind.u8.wrap kd)] 5))).drew)
    have HWC := Lib.hid ((Fr.alloc1 w1 (.cells #[.int .i64 0] 3)).drew)
    have hia := (ints_single (w1.alloc (.cells #[.int .u8 (IntKind.u8.wrap kd)] 5)) 0 3).kept (Fr.refl [] _).drew
    rw [show (w1.alloc (.cells #[.int .u8 (IntKind.u8.wrap kd)] 5)).heap.size = w1.heap.size + 1 by simp] at hia
    have HIA := Lib.hid hia
    clear hia
    have HIB := Lib.hid ((ints_single w1 0 3).kept (Fr.alloc1 _ (.cells #[.int .u8 (IntKind.u8.wrap kd)] 5)).drew)
    have HIC := Lib.hid ((ints_single w1 0 3).kept (Fr.refl [] _).drew)
    go_region_held3 (fun w' => w'.cell? ⟨w.heap.size, 0, none⟩ = some (.int .i64 kd) ∧ w'.cell? ⟨w.heap.size, 1, none⟩ = some (.slice pa pl pc) ∧ w'.cell? ⟨w.heap.size, 2, none⟩ = some (.slice ka kl kc) ∧ w'.cell? ⟨w.heap.size, 3, none⟩ = some (.slice da dl dc) ∧ w'.cell? ⟨w.heap.size, 4, none⟩ = some (.slice ga gl gc) ∧ w'.cell? ⟨w.heap.size, 5, none⟩ = some (.int .i64 nx) ∧ w'.cell? ⟨w.heap.size, 6, none⟩ = some (.int .u64 ep) ∧ w'.cell? ⟨w.heap.size, 7, none⟩ = some (.int .i64 rt) ∧ w'.cell? ⟨w.heap.size, 8, none⟩ = some (.int .i64 dp) ∧ w'.cell? ⟨w.heap.size, 9, none⟩ = some (.int .i64 ct) ∧ w'.cell? ⟨w.heap.size, 10, none⟩ = some (.int .i64 hg)) (first | exact HC1.out | exact HC2.out | exact HC2b.out | exact HC3.out | exact HC4.out | exact HC5.out | exact ⟨by assumption, by assumption, by assumption, by assumption, by assumption, by assumption, by assumption, by assumption, by assumption, by assumption, by assumption⟩ | go_keep)
      (first
      | (go_at_call 177
         with_reducible refine (two_k _ HIA.out (by simp)).mono ?_
         rintro e w2 ⟨v2, rfl, ho2, hf2⟩
         have HX := Lib.hid (encA ho2 hf2)
         have HC2 := Lib.hid (pgCells (HX.out.1.heap HB1.out (by simp)))
         clear ho2 hf2)
      | (go_at_call 177
         with_reducible refine (two_k _ HIB.out (by simp)).mono ?_
         rintro e w2 ⟨v2, rfl, ho2, hf2⟩
         have HX := Lib.hid (encB ho2 hf2)
         have HC2 := Lib.hid (pgCells (HX.out.1.heap HB1.out (by simp)))
         clear ho2 hf2)
      | (go_at_call 177
         with_reducible refine (two_k _ HIC.out (by simp)).mono ?_
         rintro e w2 ⟨v2, rfl, ho2, hf2⟩
         have HX := Lib.hid (encC (kd := kd) ho2 hf2)
         have HC2 := Lib.hid (pgCells (HX.out.1.heap HB1.out (by simp)))
         have HC2b := Lib.hid (pgCells (HX.out.2.2.1.heap HB1.out (by simp)))
         clear ho2 hf2)
      | (refine step_append_B (v := .slice (some ⟨w1.heap.size, 0, none⟩) 1 1) (vx := v2) rfl _ _ rfl rfl rfl HX.out.2.2 (HX.out.2.1.bytes [] (by simp)) (by rw [twoL_length]; simp) HX.out.1.size ?_
         intro v3 w3 ho3 hf3
         have HF3 := Lib.hid (HX.out.2.2.after HX.out.1 hf3)
         have HO3 := Lib.hid ho3
         have HC3 := Lib.hid (pgCells (HF3.out.heap HB1.out (by simp)))
         clear ho3 hf3)
      | (refine step_append_B (v := .slice (some ⟨w1.heap.size + 1, 0, none⟩) 1 1) (vx := v2) rfl _ _ rfl rfl rfl HX.out.2.2 (HX.out.2.1.bytes [] (by simp)) (by rw [twoL_length]; simp) HX.out.1.size ?_
         intro v3 w3 ho3 hf3
         have HF3 := Lib.hid (HX.out.2.2.after HX.out.1 hf3)
         have HO3 := Lib.hid ho3
         have HC3 := Lib.hid (pgCells (HF3.out.heap HB1.out (by simp)))
         clear ho3 hf3)
      | (refine step_append_B (v := .slice (some ⟨w2.heap.size, 0, none⟩) 1 1) (vx := v2) rfl _ _ rfl rfl rfl HX.out.2.2.2.2 (HX.out.2.2.2.1.bytes [] (by simp)) (by rw [twoL_length]; simp) HX.out.2.2.1.size ?_
         intro v3 w3 ho3 hf3
         have HF3 := Lib.hid (HX.out.2.2.2.2.after HX.out.2.2.1 hf3)
         have HO3 := Lib.hid ho3
         have HC3 := Lib.hid (pgCells (HF3.out.heap HB1.out (by simp)))
         clear ho3 hf3)
      | (go_at_call 178
         with_reducible refine (HBO.out _ (HF1.out.trans HF3.out)).mono ?_
         rintro e w4 ⟨v4, rfl, ho4, hf4⟩
         have HO4 : Hid (OwnB w1 w4 v3 ([u8I kd] ++ twoL [0])) := Lib.hid (ownsKept HO3.out hf4 (by simp))
         have HV4 := Lib.hid (ho4.bytes [] (by simp))
         have HF4 := Lib.hid (HF3.out.trans hf4)
         have HC4 := Lib.hid (pgCells (HF4.out.heap HB1.out (by simp)))
         clear ho4 hf4)
      | (refine step_append_B (v := v3) (vx := v4) rfl _ _ rfl rfl rfl HO4.out HV4.out (by have := HLN.out; rw [List.length_append, twoL_length]; simp; omega) HF4.out.size ?_
         intro v5 w5 ho5 hf5
         have HF5 := Lib.hid (HO4.out.after HF4.out hf5)
         have HO5 := Lib.hid ho5
         have HC5 := Lib.hid (pgCells (HF5.out.heap HB1.out (by simp)))
         clear ho5 hf5))
    all_goals
      have HQ := Lib.hid (And.intro (HO5.out.less HF1.out.size) HF5.out)
      clear HO5 HF5
      go_wp2_with fail
      go_meet
      rw [HTX.out] at HQ
      exact HQ.out
  case rest =>
    obtain ⟨hown, hfr⟩ := hcut
    have hlen := HLX.out
    have cc := hfr.cellSome c0 (by simp)
    have HC0 := Lib.hid c0
    clear c0 c1 c2 c3 c4 c5 c6 c7 c8 c9 c10
    have HE := Lib.hid (eight_k ep wc he0 he1)
    have hb1 := hfr.heap HB1.out (by simp)
    have c6 := blk_cell hb1 6
    simp only [List.getElem?_toArray, List.getElem?_cons_zero, List.getElem?_cons_succ] at c6
    have HFW := Lib.hid hfr
    have HOW := Lib.hid hown
    clear hown hfr hb1 hlen HC1 cc
    have hmm := @run_makeMap Tryz.prog
    go_wp2_with fail
    with_reducible refine HE.out.mono ?_
    rintro e w2 ⟨v2, rfl, ho2, hf2⟩
    obtain ⟨x1, x2, x3, x4, r1, r2, r3, r4, hbm, hfx⟩ := put4 (ho2.bytes [] (by simp)) ((HOW.out.bytes [] (by simp)).kept hf2)
    have HLD := Lib.hid (laid_b x4 hbm (target_super (eightL_length ep) (by have := HLX.out; omega)))
    have HFX := Lib.hid (HFW.out.trans (hf2.trans hfx))
    clear ho2 hf2 hbm hfx HE
    go_wp2_with fail
    with_reducible refine HLD.out.mono ?_
    rintro e w4 ⟨v4, rfl, hs4, hf4⟩
    have HQ : Hid (encGood w pl2 (.returned (.tuple #[v4, .int .i64 0])) w4) := Lib.hid (by
      rw [← HPL.out]
      obtain ⟨B, rfl, hB, rest⟩ := hs4
      refine ⟨_, rfl, ⟨B, rfl, ?_, rest⟩, HF1.out.trans (HFX.out.trans hf4)⟩
      have h1 := HF1.out.size; have h2 := HFX.out.size; omega)
    clear hs4 hf4 HLD
    go_wp2
    go_ret2
    exact HQ.out
set_option maxRecDepth 100000 in
set_option maxHeartbeats 4000000 in
theorem enc_super1 {p : PageD} {pa ka da ga : Option Addr} {pc kc dc gc : Nat} (w : World)
    (h : PageIn [] w p (.slice pa p.pairs.length pc) (.slice ka p.keys.length kc) (.slice da p.kids.length dc) (.slice ga p.pages.length gc)) (hs : p.small) (hb : p.okAt 1 = true) (k4 : p.kind = 4) (he0 : 0 ≤ p.epoch) (he1 : p.epoch < 18446744073709551616)
    (HB : ∀ w1, Fr [] w w1 → Calls Tryz.prog 178 #[.agg (pageCells p (.slice pa p.pairs.length pc) (.slice ka p.keys.length kc) (.slice da p.kids.length dc) (.slice ga p.pages.length gc)).toArray] w1 (MadeB w1 p.body)) (hlen : p.body.length ≤ 500) :
    Calls Tryz.prog 133 #[.int .i64 1, .agg (pageCells p (.slice pa p.pairs.length pc) (.slice ka p.keys.length kc) (.slice da p.kids.length dc) (.slice ga p.pages.length gc)).toArray] w (encGood w (superB (eightL p.epoch) (p.text 1))) := by
  have HAL := Lib.hid (Fr.alloc1 w (.cells (pageCells p (.slice pa p.pairs.length pc) (.slice ka p.keys.length kc) (.slice da p.kids.length dc) (.slice ga p.pages.length gc)).toArray 90))
  have hbk := blk_new w (.cells (pageCells p (.slice pa p.pairs.length pc) (.slice ka p.keys.length kc) (.slice da p.kids.length dc) (.slice ga p.pages.length gc)).toArray 90)
  have hok : p.check = true := by
    unfold PageD.okAt at hb
    simpa [k4] using hb
  have HCK := Lib.hid (check_raw (b := true) _ (h.kept HAL.out) hs hok)
  have HBK := Lib.hid hbk
  have HBO := Lib.hid HB
  have HLN := Lib.hid hlen
  clear h hs hb hok hbk HB hlen
  unfold PageD.text at *
  generalize p.body = bd at *
  unfold pageCells at *
  obtain ⟨kd, prs, ks, ds, gs, nx, ep, rt, dp, ct, hg⟩ := p
  dsimp only at *
  generalize prs.length = pl at *
  generalize ks.length = kl at *
  generalize ds.length = dl at *
  generalize gs.length = gl at *
  obtain ⟨tx, htx⟩ : ∃ tx, [u8I kd] ++ twoL [1] ++ bd = tx := ⟨_, rfl⟩
  rw [htx]
  have hlx : tx.length ≤ 503 := by rw [← htx]; have := HLN.out; rw [List.length_append, List.length_append, twoL_length]; simp; omega
  have HLX := Lib.hid hlx
  have HTX := Lib.hid htx
  clear htx hlx
  obtain ⟨pl2, hpl⟩ : ∃ l, superB (eightL ep) tx = l := ⟨_, rfl⟩
  rw [hpl]
  have HPL := Lib.hid hpl
  clear hpl
  have hk4 : (kd == 4) = true := by simpa using k4
  have hk5 : (!kd == 4) = false := by rw [hk4]; rfl
  clear k4
  go_enter Tryz.func133, Tryz.ntmps133
  go_wp2_with fail
  with_reducible refine HCK.out.mono ?_
  rintro e w1 ⟨rfl, hf1⟩
  have hb1 := hf1.heap HBK.out (by simp)
  have HC1 := Lib.hid (pgCells hb1)
  have HB1 := Lib.hid hb1
  obtain ⟨c0, c1, c2, c3, c4, c5, c6, c7, c8, c9, c10⟩ := HC1.out
  have HF1 := Lib.hid (HAL.out.trans hf1)
  clear hf1 hb1 HCK HBK HAL
  unfold errB
  go_upto_region 4 with fail
  go_cut [7] from 36 to 46 (fun x wr => OwnB w wr x tx ∧ Fr [] w1 wr)
  case first =>
    have HWA := Lib.hid (((Fr.alloc1 w1 (.cells #[.int .u8 (IntKind.u8.wrap kd)] 5)).trans (Fr.alloc1 _ (.cells #[.int .i64 1] 3))).drew)
    have HWB := Lib.hid (((Fr.alloc1 w1 (.cells #[.int .i64 1] 3)).trans (Fr.alloc1 _ (.cells #[.int .u8 (IntKind.u8.wrap kd)] 5))).drew)
    have HWC := Lib.hid ((Fr.alloc1 w1 (.cells #[.int .i64 1] 3)).drew)
    have hia := (ints_single (w1.alloc (.cells #[.int .u8 (IntKind.u8.wrap kd)] 5)) 1 3).kept (Fr.refl [] _).drew
    rw [show (w1.alloc (.cells #[.int .u8 (IntKind.u8.wrap kd)] 5)).heap.size = w1.heap.size + 1 by simp] at hia
    have HIA := Lib.hid hia
    clear hia
    have HIB := Lib.hid ((ints_single w1 1 3).kept (Fr.alloc1 _ (.cells #[.int .u8 (IntKind.u8.wrap kd)] 5)).drew)
    have HIC := Lib.hid ((ints_single w1 1 3).kept (Fr.refl [] _).drew)
    go_region_held3 (fun w' => w'.cell? ⟨w.heap.size, 0, none⟩ = some (.int .i64 kd) ∧ w'.cell? ⟨w.heap.size, 1, none⟩ = some (.slice pa pl pc) ∧ w'.cell? ⟨w.heap.size, 2, none⟩ = some (.slice ka kl kc) ∧ w'.cell? ⟨w.heap.size, 3, none⟩ = some (.slice da dl dc) ∧ w'.cell? ⟨w.heap.size, 4, none⟩ = some (.slice ga gl gc) ∧ w'.cell? ⟨w.heap.size, 5, none⟩ = some (.int .i64 nx) ∧ w'.cell? ⟨w.heap.size, 6, none⟩ = some (.int .u64 ep) ∧ w'.cell? ⟨w.heap.size, 7, none⟩ = some (.int .i64 rt) ∧ w'.cell? ⟨w.heap.size, 8, none⟩ = some (.int .i64 dp) ∧ w'.cell? ⟨w.heap.size, 9, none⟩ = some (.int .i64 ct) ∧ w'.cell? ⟨w.heap.size, 10, none⟩ = some (.int .i64 hg)) (first | exact HC1.out | exact HC2.out | exact HC2b.out | exact HC3.out | exact HC4.out | exact HC5.out | exact ⟨by assumption, by assumption, by assumption, by assumption, by assumption, by assumption, by assumption, by assumption, by assumption, by assumption, by assumption⟩ | go_keep)
      (first
      | (go_at_call 177
         with_reducible refine (two_k _ HIA.out (by simp)).mono ?_
         rintro e w2 ⟨v2, rfl, ho2, hf2⟩
         have HX := Lib.hid (encA ho2 hf2)
         have HC2 := Lib.hid (pgCells (HX.out.1.heap HB1.out (by simp)))
         clear ho2 hf2)
      | (go_at_call 177
         with_reducible refine (two_k _ HIB.out (by simp)).mono ?_
         rintro e w2 ⟨v2, rfl, ho2, hf2⟩
         have HX := Lib.hid (encB ho2 hf2)
         have HC2 := Lib.hid (pgCells (HX.out.1.heap HB1.out (by simp)))
         clear ho2 hf2)
      | (go_at_call 177
         with_reducible refine (two_k _ HIC.out (by simp)).mono ?_
         rintro e w2 ⟨v2, rfl, ho2, hf2⟩
         have HX := Lib.hid (encC (kd := kd) ho2 hf2)
         have HC2 := Lib.hid (pgCells (HX.out.1.heap HB1.out (by simp)))
         have HC2b := Lib.hid (pgCells (HX.out.2.2.1.heap HB1.out (by simp)))
         clear ho2 hf2)
      | (refine step_append_B (v := .slice (some ⟨w1.heap.size, 0, none⟩) 1 1) (vx := v2) rfl _ _ rfl rfl rfl HX.out.2.2 (HX.out.2.1.bytes [] (by simp)) (by rw [twoL_length]; simp) HX.out.1.size ?_
         intro v3 w3 ho3 hf3
         have HF3 := Lib.hid (HX.out.2.2.after HX.out.1 hf3)
         have HO3 := Lib.hid ho3
         have HC3 := Lib.hid (pgCells (HF3.out.heap HB1.out (by simp)))
         clear ho3 hf3)
      | (refine step_append_B (v := .slice (some ⟨w1.heap.size + 1, 0, none⟩) 1 1) (vx := v2) rfl _ _ rfl rfl rfl HX.out.2.2 (HX.out.2.1.bytes [] (by simp)) (by rw [twoL_length]; simp) HX.out.1.size ?_
         intro v3 w3 ho3 hf3
         have HF3 := Lib.hid (HX.out.2.2.after HX.out.1 hf3)
         have HO3 := Lib.hid ho3
         have HC3 := Lib.hid (pgCells (HF3.out.heap HB1.out (by simp)))
         clear ho3 hf3)
      | (refine step_append_B (v := .slice (some ⟨w2.heap.size, 0, none⟩) 1 1) (vx := v2) rfl _ _ rfl rfl rfl HX.out.2.2.2.2 (HX.out.2.2.2.1.bytes [] (by simp)) (by rw [twoL_length]; simp) HX.out.2.2.1.size ?_
         intro v3 w3 ho3 hf3
         have HF3 := Lib.hid (HX.out.2.2.2.2.after HX.out.2.2.1 hf3)
         have HO3 := Lib.hid ho3
         have HC3 := Lib.hid (pgCells (HF3.out.heap HB1.out (by simp)))
         clear ho3 hf3)
      | (go_at_call 178
         with_reducible refine (HBO.out _ (HF1.out.trans HF3.out)).mono ?_
         rintro e w4 ⟨v4, rfl, ho4, hf4⟩
         have HO4 : Hid (OwnB w1 w4 v3 ([u8I kd] ++ twoL [1])) := Lib.hid (ownsKept HO3.out hf4 (by simp))
         have HV4 := Lib.hid (ho4.bytes [] (by simp))
         have HF4 := Lib.hid (HF3.out.trans hf4)
         have HC4 := Lib.hid (pgCells (HF4.out.heap HB1.out (by simp)))
         clear ho4 hf4)
      | (refine step_append_B (v := v3) (vx := v4) rfl _ _ rfl rfl rfl HO4.out HV4.out (by have := HLN.out; rw [List.length_append, twoL_length]; simp; omega) HF4.out.size ?_
         intro v5 w5 ho5 hf5
         have HF5 := Lib.hid (HO4.out.after HF4.out hf5)
         have HO5 := Lib.hid ho5
         have HC5 := Lib.hid (pgCells (HF5.out.heap HB1.out (by simp)))
         clear ho5 hf5))
    all_goals
      have HQ := Lib.hid (And.intro (HO5.out.less HF1.out.size) HF5.out)
      clear HO5 HF5
      go_wp2_with fail
      go_meet
      rw [HTX.out] at HQ
      exact HQ.out
  case rest =>
    obtain ⟨hown, hfr⟩ := hcut
    have hlen := HLX.out
    have cc := hfr.cellSome c0 (by simp)
    have HC0 := Lib.hid c0
    clear c0 c1 c2 c3 c4 c5 c6 c7 c8 c9 c10
    have HE := Lib.hid (eight_k ep wc he0 he1)
    have hb1 := hfr.heap HB1.out (by simp)
    have c6 := blk_cell hb1 6
    simp only [List.getElem?_toArray, List.getElem?_cons_zero, List.getElem?_cons_succ] at c6
    have HFW := Lib.hid hfr
    have HOW := Lib.hid hown
    clear hown hfr hb1 hlen HC1 cc
    have hmm := @run_makeMap Tryz.prog
    go_wp2_with fail
    with_reducible refine HE.out.mono ?_
    rintro e w2 ⟨v2, rfl, ho2, hf2⟩
    obtain ⟨x1, x2, x3, x4, r1, r2, r3, r4, hbm, hfx⟩ := put4 (ho2.bytes [] (by simp)) ((HOW.out.bytes [] (by simp)).kept hf2)
    have HLD := Lib.hid (laid_b x4 hbm (target_super (eightL_length ep) (by have := HLX.out; omega)))
    have HFX := Lib.hid (HFW.out.trans (hf2.trans hfx))
    clear ho2 hf2 hbm hfx HE
    go_wp2_with fail
    with_reducible refine HLD.out.mono ?_
    rintro e w4 ⟨v4, rfl, hs4, hf4⟩
    have HQ : Hid (encGood w pl2 (.returned (.tuple #[v4, .int .i64 0])) w4) := Lib.hid (by
      rw [← HPL.out]
      obtain ⟨B, rfl, hB, rest⟩ := hs4
      refine ⟨_, rfl, ⟨B, rfl, ?_, rest⟩, HF1.out.trans (HFX.out.trans hf4)⟩
      have h1 := HF1.out.size; have h2 := HFX.out.size; omega)
    clear hs4 hf4 HLD
    go_wp2
    go_ret2
    exact HQ.out
end Go.Proofs.YtgpohemcfgepeaaGreat

namespace Go.Proofs.YtgpohemcfgepeaaGreat
open Go.RowKit Go.MapKept
def OwnI (w w' : World) (v : Value) (l : List Int) : Prop := w'.ownsRow w.heap.size 3 1 v l.length (l.map intV)
theorem OwnI.ints {w w' : World} {v : Value} {l : List Int} (h : OwnI w w' v l) (S : List Nat) (hS : ∀ x, x ∈ S → x < w.heap.size) : Ints S w' v l := Slc.ofOwns (S := S) h hS
theorem OwnI.less {w0 w w' : World} {v : Value} {l : List Int} (h : OwnI w w' v l) (hs : w0.heap.size ≤ w.heap.size) : OwnI w0 w' v l := ownsBase h hs
theorem OwnI.append {w w1 : World} {v vx : Value} {l m : List Int} {S : List Nat} (h : OwnI w w1 v l) (hx : Ints S w1 vx m) (hl : l.length + m.length ≤ 10000000) (hs : w.heap.size ≤ w1.heap.size) (ty : TypeId) :
    ∃ v' w', (Builtin.append_ #[70, 70] ty #[v, vx]).run Tryz.prog w1 = .ok v' w' ∧ OwnI w w' v' (l ++ m) ∧ Fr v.ownBlock.toList w1 w' := by
  obtain ⟨v', w', hr, ho, hf, _⟩ := run_append_slc (P := Tryz.prog) (t := 70) (ty := ty) Tryz.underlying70 Tryz.info3i rfl (by decide) h hx (by simp) (ints_one m) (by unfold maxLen; omega) (by omega) hs
  refine ⟨v', w', hr, ?_, hf⟩
  unfold OwnI
  rw [List.length_append, List.map_append]
  exact ho
theorem OwnI.after {w w1 w' : World} {v : Value} {l : List Int} (h : OwnI w w1 v l) (hf0 : Fr [] w w1) (hf : Fr v.ownBlock.toList w1 w') : Fr [] w w' :=
  hf0.andThen hf (fun y hy => .inr (by
    cases hb : v.ownBlock with
    | none => rw [hb] at hy; cases hy
    | some g => rw [hb] at hy; simp at hy; rw [hy]; exact (h.lt g hb).1))
theorem OwnI.single (w w' : World) (x : Int) (hf : Fr [] (w.alloc (.cells #[.int .i64 x] 3)) w') : OwnI w w' (.slice (some ⟨w.heap.size, 0, none⟩) 1 1) [x] := by
  refine ⟨by simp, .inr ⟨_, 1, #[.int .i64 x], rfl, Nat.le_refl _, hf.heap (blk_new w _) (by simp), Nat.le_refl _, by unfold maxLen; omega, by simp, ?_⟩⟩
  simp [intV]
theorem step_append_I {w W0 : World} {ops : Array Oper} {o : Oper} {a : Act} {K : Act → World → Prop} {Q : Exit → Act → World → Prop} {E : Prop} (hgd : o.guard = none) (s x : Operand)
    (ho : o.op = .call { callee := .builtin .append, args := #[s, x], argTypes := #[70, 70] }) {v vx : Value} {l m : List Int} (hs : a.eval s = v) (hxe : a.eval x = vx)
    (hown : OwnI W0 w v l) (hx : Ints [] w vx m) (hl : l.length + m.length ≤ 10000000) (hsz : W0.heap.size ≤ w.heap.size)
    (h : ∀ v' w', OwnI W0 w' v' (l ++ m) → Fr v.ownBlock.toList w w' → K (a.put o.dst v') w') :
    if Region.wanted o (yielded ops a.tmps) = true then Oper.wp Tryz.prog o a w K Q else E := by
  obtain ⟨v', w', hr, ho', hf⟩ := hown.append hx hl hsz o.type
  exact step_append_run hgd s x _ ho (by rw [hs, hxe]; exact hr) (h v' w' ho' hf)
theorem frA (W : World) (x : Int) : Fr [] W (W.alloc (.cells #[.int .i64 x] 3)).drew := (Fr.alloc1 _ _).drew
theorem frB (W : World) (x y : Int) : Fr [] W ((W.alloc (.cells #[.int .i64 x] 3)).alloc (.cells #[.int .i64 y] 3)).drew := ((Fr.alloc1 _ _).trans (Fr.alloc1 _ _)).drew
theorem ownA (W : World) (x : Int) : OwnI W (W.alloc (.cells #[.int .i64 x] 3)).drew (.slice (some ⟨W.heap.size, 0, none⟩) 1 1) [x] := OwnI.single W _ x (Fr.refl [] _).drew
theorem ownB (W : World) (x y : Int) : OwnI W ((W.alloc (.cells #[.int .i64 x] 3)).alloc (.cells #[.int .i64 y] 3)).drew (.slice (some ⟨W.heap.size, 0, none⟩) 1 1) [x] := OwnI.single W _ x (Fr.alloc1 _ _).drew
theorem ownC (W : World) (x y : Int) : OwnI W ((W.alloc (.cells #[.int .i64 x] 3)).alloc (.cells #[.int .i64 y] 3)).drew (.slice (some ⟨W.heap.size + 1, 0, none⟩) 1 1) [y] := by
  have h := OwnI.single (W.alloc (.cells #[.int .i64 x] 3)) ((W.alloc (.cells #[.int .i64 x] 3)).alloc (.cells #[.int .i64 y] 3)).drew y (Fr.refl [] _).drew
  rw [show (W.alloc (.cells #[.int .i64 x] 3)).heap.size = W.heap.size + 1 by simp] at h
  exact h.less (by simp)
theorem nxB (W : World) (x y : Int) : Ints [W.heap.size] ((W.alloc (.cells #[.int .i64 x] 3)).alloc (.cells #[.int .i64 y] 3)).drew (.slice (some ⟨W.heap.size + 1, 0, none⟩) 1 1) [y] := by
  have hb := blk_new (W.alloc (.cells #[.int .i64 x] 3)) (.cells #[.int .i64 y] 3)
  rw [show (W.alloc (.cells #[.int .i64 x] 3)).heap.size = W.heap.size + 1 by simp] at hb
  exact Slc.ofBlock ((Fr.refl [] _).drew.heap hb (by simp)) (by simp) 1 1 (Nat.le_refl _)
theorem nxC (W : World) (x y : Int) : Ints [W.heap.size + 1] ((W.alloc (.cells #[.int .i64 x] 3)).alloc (.cells #[.int .i64 y] 3)).drew (.slice (some ⟨W.heap.size, 0, none⟩) 1 1) [x] := by
  have hb := blk_new W (.cells #[.int .i64 x] 3)
  exact Slc.ofBlock ((Fr.alloc1 _ _).drew.heap hb (by simp)) (by simp) 1 1 (Nat.le_refl _)
set_option maxRecDepth 100000 in
set_option maxHeartbeats 1000000 in
theorem body_free {p : PageD} {pa ka da ga : Option Addr} {pc kc dc gc : Nat} (w : World) (k3 : p.kind = 3) (hg : Ints [] w (.slice ga p.pages.length gc) p.pages) (hl : p.pages.length ≤ 1000) :
    Calls Tryz.prog 178 #[.agg (pageCells p (.slice pa p.pairs.length pc) (.slice ka p.keys.length kc) (.slice da p.kids.length dc) (.slice ga p.pages.length gc)).toArray] w (MadeB w (twoL ([(p.pages.length : Int)] ++ p.pages ++ [p.next]))) := by
  obtain ⟨kd, prs, keys, kids, l, nx, ep, rt, dp, ct, hg'⟩ := p
  dsimp only at *
  subst k3
  unfold pageCells
  dsimp only
  generalize prs.length = np
  generalize keys.length = nk
  generalize kids.length = nd
  obtain ⟨W1, hW1⟩ : ∃ W, w.alloc (.cells #[.int .i64 3, .slice pa np pc, .slice ka nk kc, .slice da nd dc, .slice ga l.length gc, .int .i64 nx, .int .u64 ep, .int .i64 rt, .int .i64 dp, .int .i64 ct, .int .i64 hg'] 90) = W := ⟨_, rfl⟩
  have hal := Fr.alloc1 w (.cells #[.int .i64 3, .slice pa np pc, .slice ka nk kc, .slice da nd dc, .slice ga l.length gc, .int .i64 nx, .int .u64 ep, .int .i64 rt, .int .i64 dp, .int .i64 ct, .int .i64 hg'] 90)
  have hbk := blk_new w (.cells #[.int .i64 3, .slice pa np pc, .slice ka nk kc, .slice da nd dc, .slice ga l.length gc, .int .i64 nx, .int .u64 ep, .int .i64 rt, .int .i64 dp, .int .i64 ct, .int .i64 hg'] 90)
  rw [hW1] at hal hbk
  have c0 := blk_cell hbk 0
  have c4 := blk_cell hbk 4
  have c5 := blk_cell hbk 5
  simp only [List.getElem?_toArray, List.getElem?_cons_zero, List.getElem?_cons_succ] at c0 c4 c5
  have HP := Lib.hid (hg.kept hal)
  have HAL := Lib.hid hal
  have HL := Lib.hid hl
  have HC := Lib.hid (And.intro c4 c5)
  clear hg hal hl hbk
  go_enter Tryz.func178, Tryz.ntmps178
  go_upto_region 20 with fail
  go_region_held3 (fun w' => w'.cell? ⟨w.heap.size, 4, none⟩ = some (.slice ga l.length gc) ∧ w'.cell? ⟨w.heap.size, 5, none⟩ = some (.int .i64 nx)) (first | exact HC.out | exact HC3.out | exact HC5.out | exact HC6.out | go_keep)
    (first
    | (refine step_append_I (v := .slice (some ⟨W1.heap.size, 0, none⟩) 1 1) (vx := .slice ga l.length gc) rfl _ _ rfl rfl rfl (ownA W1 _) (HP.out.kept (frA W1 _)) (by have := HL.out; simp; omega) (frA W1 _).size ?_
       intro v3 w3 ho3 hf3
       have HF3 := Lib.hid ((ownA W1 _).after (frA W1 _) hf3)
       have HC3 := Lib.hid (And.intro (HF3.out.cellSome HC.out.1 (by simp)) (HF3.out.cellSome HC.out.2 (by simp)))
       have HN4 := Lib.hid (ints_single' w3 nx)
       have HF4 := Lib.hid (HF3.out.trans (Fr.alloc1 w3 (.cells #[.int .i64 nx] 3)))
       have HO4 : Hid (OwnI W1 (w3.alloc (.cells #[.int .i64 nx] 3)) v3 ([(l.length : Int)] ++ l)) := Lib.hid (ownsKept ho3 (Fr.alloc1 w3 _) (by simp))
       clear ho3 hf3)
    | (refine step_append_I (v := .slice (some ⟨W1.heap.size, 0, none⟩) 1 1) (vx := .slice ga l.length gc) rfl _ _ rfl rfl rfl (ownB W1 _ _) (HP.out.kept (frB W1 _ _)) (by have := HL.out; simp; omega) (frB W1 _ _).size ?_
       intro v3 w3 ho3 hf3
       have HF4 := Lib.hid ((ownB W1 _ _).after (frB W1 _ _) hf3)
       have HO4 := Lib.hid ho3
       have HN4 := Lib.hid (((nxB W1 _ _).kept hf3).mono (S' := []) (by simp))
       have HC3 := Lib.hid (And.intro (HF4.out.cellSome HC.out.1 (by simp)) (HF4.out.cellSome HC.out.2 (by simp)))
       clear ho3 hf3)
    | (refine step_append_I (v := .slice (some ⟨W1.heap.size + 1, 0, none⟩) 1 1) (vx := .slice ga l.length gc) rfl _ _ rfl rfl rfl (ownC W1 _ _) (HP.out.kept (frB W1 _ _)) (by have := HL.out; simp; omega) (frB W1 _ _).size ?_
       intro v3 w3 ho3 hf3
       have HF4 := Lib.hid ((ownC W1 _ _).after (frB W1 _ _) hf3)
       have HO4 := Lib.hid ho3
       have HN4 := Lib.hid (((nxC W1 _ _).kept hf3).mono (S' := []) (by simp))
       have HC3 := Lib.hid (And.intro (HF4.out.cellSome HC.out.1 (by simp)) (HF4.out.cellSome HC.out.2 (by simp)))
       clear ho3 hf3)
    | (refine step_append_I (v := v3) rfl _ _ rfl rfl rfl HO4.out HN4.out (by have := HL.out; simp; omega) HF4.out.size ?_
       intro v5 w5 ho5 hf5
       have HF5 := Lib.hid (HO4.out.after HF4.out hf5)
       have HO5 := Lib.hid ho5
       have HI5 := Lib.hid (ho5.ints [] (by simp))
       have HC5 := Lib.hid (And.intro (HF5.out.cellSome HC.out.1 (by simp)) (HF5.out.cellSome HC.out.2 (by simp)))
       clear ho5 hf5)
    | (go_at_call 177
       with_reducible refine (two_k _ HI5.out (by have := HL.out; simp; omega)).mono ?_
       rintro e w6 ⟨v6, rfl, ho6, hf6⟩
       have HQ : Hid (MadeB w (twoL ([(l.length : Int)] ++ l ++ [nx])) (.returned v6) w6) := Lib.hid ⟨v6, rfl, ho6.less (HAL.out.trans HF5.out).size, (HAL.out.trans HF5.out).trans hf6⟩
       have HC6 := Lib.hid (And.intro ((HF5.out.trans hf6).cellSome HC.out.1 (by simp)) ((HF5.out.trans hf6).cellSome HC.out.2 (by simp)))
       clear ho6 hf6))
  all_goals
    go_wp2
    go_ret
    exact HQ.out
end Go.Proofs.YtgpohemcfgepeaaGreat

namespace Go.Proofs.YtgpohemcfgepeaaGreat
open Go.RowKit Go.MapKept
def keysT (ks : List ByteArray) (gs : List Int) (k : Nat) : List UInt8 := keysL (ks.take k) (gs.take (k + 1))
theorem keysT_snoc {ks : List ByteArray} {gs : List Int} {k : Nat} (hk : k < ks.length) (hg : k + 1 < gs.length) : keysT ks gs (k + 1) = keysT ks gs k ++ textL ks[k] ++ twoL [gs[k + 1]] := by
  have key : ∀ (ks : List ByteArray) (gs : List Int) (k : Nat) (hk : k < ks.length) (hg : k < gs.length), ((ks.take (k + 1)).zip (gs.take (k + 1))).flatMap (fun x => textL x.1 ++ twoL [x.2]) = ((ks.take k).zip (gs.take k)).flatMap (fun x => textL x.1 ++ twoL [x.2]) ++ (textL ks[k] ++ twoL [gs[k]]) := by
    intro ks
    induction ks with
    | nil => intro gs k hk; simp at hk
    | cons x l ih =>
      intro gs k hk hg
      cases gs with
      | nil => simp at hg
      | cons y m =>
        cases k with
        | zero => simp
        | succ k =>
          have := ih m k (by simpa using hk) (by simpa using hg)
          simp only [List.take_succ_cons, List.zip_cons_cons, List.flatMap_cons, List.getElem_cons_succ] at this ⊢
          rw [this]
          simp
  unfold keysT keysL
  cases gs with
  | nil => simp at hg
  | cons y m =>
    have := key ks m k hk (by simpa using hg)
    simp only [List.take_succ_cons, List.drop_succ_cons, List.drop_zero, List.getElem_cons_succ]
    rw [this, List.append_assoc]
theorem keysT_full {ks : List ByteArray} {gs : List Int} (h : gs.length = ks.length + 1) : keysT ks gs ks.length = keysL ks gs := by
  unfold keysT
  rw [List.take_length, ← h, List.take_length]
theorem keysT_zero (ks : List ByteArray) (gs : List Int) : keysT ks gs 0 = [] := by unfold keysT keysL; simp
theorem keysL_length {ks : List ByteArray} {gs : List Int} {m : Nat} (h : ∀ x ∈ ks, x.size ≤ m) : (keysL ks gs).length ≤ ks.length * (m + 3) := by
  unfold keysL
  generalize gs.drop 1 = gs
  induction ks generalizing gs with
  | nil => simp
  | cons x l ih =>
    cases gs with
    | nil => simp
    | cons y g =>
      have h1 := h x (by simp)
      have := ih (fun y hy => h y (by simp [hy])) (gs := g)
      simp only [List.zip_cons_cons, List.flatMap_cons, List.length_append, textL_length, twoL_length, List.length_cons, List.length_nil]
      rw [Nat.add_mul l.length 1 (m + 3), Nat.one_mul]
      omega
theorem keysT_length {ks : List ByteArray} {gs : List Int} {m : Nat} (h : ∀ x ∈ ks, x.size ≤ m) (k : Nat) : (keysT ks gs k).length ≤ ks.length * (m + 3) := by
  have h1 := keysL_length (ks := ks.take k) (gs := gs.take (k + 1)) (m := m) (fun x hx => h x (List.mem_of_mem_take hx))
  have h2 : (ks.take k).length * (m + 3) ≤ ks.length * (m + 3) := Nat.mul_le_mul_right _ (by rw [List.length_take]; omega)
  unfold keysT
  omega
theorem keptI {w w' : World} {b : Nat} {x : Int} (h : KeepT w w') (hb : w.heap[b]? = some (.cells #[.int .i64 x] 3 (0, 0))) : Ints [] w' (.slice (some ⟨b, 0, none⟩) 1 1) [x] :=
  Slc.ofBlock (h b _ _ (by decide) hb) (by simp) 1 1 (Nat.le_refl _)
set_option maxRecDepth 100000 in
set_option maxHeartbeats 2000000 in
theorem body_branch {p : PageD} {pa ka da ga : Option Addr} {pc kc dc gc : Nat} (w : World) (k2 : p.kind = 2) (hk : Txts [] w (.slice ka p.keys.length kc) p.keys) (hd : Ints [] w (.slice da p.kids.length dc) p.kids)
    (hl : p.keys.length ≤ 100) (hkd : p.kids.length = p.keys.length + 1) (hs : ∀ x ∈ p.keys, x.size ≤ 1000) :
    Calls Tryz.prog 178 #[.agg (pageCells p (.slice pa p.pairs.length pc) (.slice ka p.keys.length kc) (.slice da p.kids.length dc) (.slice ga p.pages.length gc)).toArray] w (MadeB w (twoL [p.keys.length, p.kids.headD 0] ++ keysL p.keys p.kids)) := by
  obtain ⟨kd, prs, ks, gs, pages, nx, ep, rt, dp, ct, hg⟩ := p
  dsimp only at *
  subst k2
  unfold pageCells
  dsimp only
  generalize prs.length = np
  generalize pages.length = ng
  rw [hkd] at hd ⊢
  obtain ⟨W1, hW1⟩ : ∃ W, w.alloc (.cells #[.int .i64 2, .slice pa np pc, .slice ka ks.length kc, .slice da (ks.length + 1) dc, .slice ga ng gc, .int .i64 nx, .int .u64 ep, .int .i64 rt, .int .i64 dp, .int .i64 ct, .int .i64 hg] 90) = W := ⟨_, rfl⟩
  have hal := Fr.alloc1 w (.cells #[.int .i64 2, .slice pa np pc, .slice ka ks.length kc, .slice da (ks.length + 1) dc, .slice ga ng gc, .int .i64 nx, .int .u64 ep, .int .i64 rt, .int .i64 dp, .int .i64 ct, .int .i64 hg] 90)
  have hbk := blk_new w (.cells #[.int .i64 2, .slice pa np pc, .slice ka ks.length kc, .slice da (ks.length + 1) dc, .slice ga ng gc, .int .i64 nx, .int .u64 ep, .int .i64 rt, .int .i64 dp, .int .i64 ct, .int .i64 hg] 90)
  rw [hW1] at hal hbk
  have c0 := blk_cell hbk 0
  have c2 := blk_cell hbk 2
  have c3 := blk_cell hbk 3
  simp only [List.getElem?_toArray, List.getElem?_cons_zero, List.getElem?_cons_succ] at c0 c2 c3
  obtain ⟨B, off, rfl⟩ : ∃ B off, da = some ⟨B, off, none⟩ := by
    rcases hd with ⟨_, _, _, h0, _⟩ | ⟨B, off, cap, h, _⟩
    · omega
    · simp only [Value.slice.injEq] at h; exact ⟨B, off, h.1⟩
  have HK := Lib.hid (hk.kept hal)
  have HD := Lib.hid (hd.kept hal)
  have HAL := Lib.hid hal
  have HL := Lib.hid hl
  have HKD := Lib.hid hkd
  have HS := Lib.hid hs
  obtain ⟨g0, hg0⟩ : ∃ g, gs.headD 0 = g := ⟨_, rfl⟩
  have d0 := HD.out.at (i := 0) (by omega)
  rw [Nat.add_zero, show gs[0]'(by omega) = g0 by rw [← hg0]; cases gs with | nil => simp at hkd | cons y m => rfl] at d0
  rw [hg0]
  have hlJ : (ks.length : Int) ≤ 100 := by omega
  have HC := Lib.hid (And.intro c2 (And.intro c3 d0))
  have HTW := Lib.hid (two_k _ ((ints_pair W1 (ks.length : Int) g0).kept (Fr.refl [] _).drew) (by simp))
  have HFA := Lib.hid ((Fr.alloc1 W1 (.cells #[.int .i64 (ks.length : Int), .int .i64 g0] 3)).drew)
  clear hk hd hal hl hkd hs hbk hg0
  go_enter Tryz.func178, Tryz.ntmps178
  go_upto_region 12 with fail
  go_region_held3 (fun w' => w'.cell? ⟨w.heap.size, 2, none⟩ = some (.slice ka ks.length kc) ∧ w'.cell? ⟨w.heap.size, 3, none⟩ = some (.slice (some ⟨B, off, none⟩) (ks.length + 1) dc) ∧ w'.cell? ⟨B, off, none⟩ = some (.int .i64 g0)) (first | exact HC.out | exact HC2.out | go_keep)
    (first
    | (go_at_call 177
       with_reducible refine HTW.out.mono ?_
       rintro e w2 ⟨v2, rfl, ho2, hf2⟩
       have HO2 : Hid (OwnB W1 w2 v2 (twoL [(ks.length : Int), g0])) := Lib.hid (ho2.less HFA.out.size)
       have HF2 := Lib.hid (HFA.out.trans hf2)
       have HC2 := Lib.hid (And.intro (HF2.out.cellSome HC.out.1 (by simp)) (And.intro (HF2.out.cellSome HC.out.2.1 (by simp)) (HF2.out.cellSome HC.out.2.2 (by simp))))
       clear ho2 hf2))
  clear c2 c3 d0 hW1
  have c2 := HC2.out.1
  go_wp2_with fail
  go_loopw [7, 51] (fun x i wr => ∃ k : Nat, k ≤ ks.length ∧ i = .int .i64 k ∧ OwnB W1 wr x (twoL [(ks.length : Int), g0] ++ keysT ks gs k) ∧ Fr [] W1 wr) (fun _ i _ => ks.length - (intOf i).toNat)
  case atStart => exact ⟨0, Nat.zero_le _, rfl, by rw [keysT_zero, List.append_nil]; exact HO2.out, HF2.out⟩
  case round =>
    obtain ⟨k, hkl, rfl, hown, hfr⟩ := hrel
    by_cases hlt : k < ks.length
    · have hkI : (k : Int) < (ks.length : Int) := by omega
      have hk1 : k + 1 < gs.length := by have := HKD.out; omega
      obtain ⟨B2, off2, rfl⟩ : ∃ B2 off2, ka = some ⟨B2, off2, none⟩ := by
        rcases HK.out with ⟨_, _, _, h0, _⟩ | ⟨B, off, cap, h, _⟩
        · omega
        · cases h; exact ⟨B, off, rfl⟩
      have hc1 := (HK.out.kept hfr).at hlt
      have hc2 := HD.out.at hk1
      have hsn := keysT_snoc hlt hk1
      have hln := keysT_length (gs := gs) HS.out k
      have hx := HS.out ks[k] (List.getElem_mem hlt)
      generalize ks[k] = x at *
      generalize gs[k + 1] = y at *
      have hlb : (twoL [(ks.length : Int), g0] ++ keysT ks gs k).length + x.size ≤ 1000000 := by
        have := HL.out
        have h3 : ks.length * (1000 + 3) ≤ 100 * 1003 := Nat.mul_le_mul_right _ this
        rw [List.length_append, twoL_length]; simp; omega
      have HCA := Lib.hid (And.intro HC.out.2.1 hc2)
      have HSN := Lib.hid hsn
      have e0 := HCA.out.1
      have e1 := HCA.out.2
      -- T first
      have HT1 := Lib.hid (text_t x wr.drew (ownsKept hown (Fr.refl [] _).drew (by simp) : OwnB W1 wr.drew _ _) (hfr.trans (Fr.refl [] _).drew) hlb)
      -- A first
      have hA := (Fr.alloc1 wr (.cells #[.int .i64 y] 3)).drew
      have HT2 := Lib.hid (text_t x _ (ownsKept hown hA (by simp) : OwnB W1 _ _ _) (hfr.trans hA) hlb)
      have HB2 : Hid ((wr.alloc (.cells #[.int .i64 y] 3)).drew.heap[wr.heap.size]? = some (.cells #[.int .i64 y] 3 (0, 0))) := Lib.hid ((Fr.refl [] _).drew.heap (blk_new wr _) (by simp))
      have HFR := Lib.hid hfr
      have HLB := Lib.hid hlb
      clear hown hsn hln hA hfr hlb hx hc2
      go_upto_region 16 with fail
      have w1 : IntKind.i64.wrap ((k : Int) + 1) = (k : Int) + 1 := IntWalk.i64_in _ (by omega)
      have w2 : 0 ≤ (k : Int) + 1 := by omega
      have w3 : ((k : Int) + 1).toNat = k + 1 := by omega
      have w4 : (k : Int) + 1 < (ks.length : Int) + 1 := by omega
      have f0 := HFR.out.cellSome e0 (by simp)
      have f1 := HFR.out.cellSome e1 (by simp)
      go_region_held3 (fun w' => w'.cell? ⟨w.heap.size, 3, none⟩ = some (.slice (some ⟨B, off, none⟩) (ks.length + 1) dc) ∧ w'.cell? ⟨B, off + (k + 1), none⟩ = some (.int .i64 y)) (first | exact ⟨f0, f1⟩ | exact HC5.out | exact HC6.out | exact HC7.out | go_keep)
        (first
        | (go_at_call 198
           with_reducible refine HT1.out.mono ?_
           rintro e w5 ⟨⟨v5, rfl, ho5, hf5⟩, hk5⟩
           have HF5 := Lib.hid hf5
           have HC5 := Lib.hid (And.intro (hf5.cellSome e0 (by simp)) (hf5.cellSome e1 (by simp)))
           have g0' := HC5.out.1
           have g1' := HC5.out.2
           have HI6 := Lib.hid (ints_single' w5 y)
           have HF6 := Lib.hid (hf5.trans (Fr.alloc1 w5 (.cells #[.int .i64 y] 3)))
           have HO6 : Hid (OwnB W1 (w5.alloc (.cells #[.int .i64 y] 3)) v5 (twoL [(ks.length : Int), g0] ++ keysT ks gs k ++ textL x)) := Lib.hid (ownsKept ho5 (Fr.alloc1 w5 _) (by simp))
           clear ho5 hf5 hk5)
        | (go_at_call 198
           with_reducible refine HT2.out.mono ?_
           rintro e w5 ⟨⟨v5, rfl, ho5, hf5⟩, hk5⟩
           have HF6 := Lib.hid hf5
           have HC5 := Lib.hid (And.intro (hf5.cellSome e0 (by simp)) (hf5.cellSome e1 (by simp)))
           have HI6 := Lib.hid (keptI hk5 HB2.out)
           have HO6 := Lib.hid ho5
           clear ho5 hf5 hk5)
        | (go_at_call 177
           with_reducible refine (two_k _ HI6.out (by simp)).mono ?_
           rintro e w7 ⟨v7, rfl, ho7, hf7⟩
           have HF7 := Lib.hid (HF6.out.trans hf7)
           have HO7 : Hid (OwnB W1 w7 v5 (twoL [(ks.length : Int), g0] ++ keysT ks gs k ++ textL x)) := Lib.hid (ownsKept HO6.out hf7 (by simp))
           have HB7 := Lib.hid (ho7.bytes [] (by simp))
           have HC6 := Lib.hid (And.intro (HF7.out.cellSome e0 (by simp)) (HF7.out.cellSome e1 (by simp)))
           clear ho7 hf7)
        | (refine step_append_B (v := v5) (vx := v7) rfl _ _ rfl rfl rfl HO7.out HB7.out (by have := HLB.out; simp only [List.length_append, textL_length, twoL_length] at this ⊢; simp at this ⊢; omega) HF7.out.size ?_
           intro v8 w8 ho8 hf8
           have HF8 := Lib.hid (HO7.out.after HF7.out hf8)
           have HO8 := Lib.hid ho8
           have HC7 := Lib.hid (And.intro (HF8.out.cellSome e0 (by simp)) (HF8.out.cellSome e1 (by simp)))
           clear ho8 hf8))
      all_goals
        have HO9 : Hid (OwnB W1 w8 v8 (twoL [(ks.length : Int), g0] ++ keysT ks gs (k + 1))) := Lib.hid (by rw [HSN.out]; have := HO8.out; simpa only [List.append_assoc] using this)
        clear HO8 w1 w2 w3 w4
        go_wp2
        go_roundw
        case rel => exact ⟨k + 1, by omega, by go_num, HO9.out, HF8.out⟩
        case measure => simp [intOf]; omega
    · obtain rfl : k = ks.length := by omega
      rw [keysT_full HKD.out] at hown
      have HQ : Hid (MadeB w (twoL [(ks.length : Int), g0] ++ keysL ks gs) (.returned u7) wr) := Lib.hid ⟨_, rfl, hown.less HAL.out.size, HAL.out.trans hfr⟩
      clear hown hfr
      go_wp2
      go_ret
      exact HQ.out
end Go.Proofs.YtgpohemcfgepeaaGreat

namespace Go.Proofs.YtgpohemcfgepeaaGreat
open Go.RowKit Go.MapKept
def PageD.encL (p : PageD) (s : Int) : List UInt8 := if p.kind = 4 then superB (eightL p.epoch) (p.text s) else plainL (p.text s)
def encR (w : World) (b : Bool) (l : List UInt8) (e : Ending) (w' : World) : Prop := (b = true ∧ encGood w l e w') ∨ (b = false ∧ encBad w e w')
theorem riseFrom_size {o : Option ByteArray} {l : List ByteArray} (h : riseFrom o l = true) : ∀ x ∈ l, x.size ≤ 48 := by
  induction l generalizing o with
  | nil => simp
  | cons x l ih =>
    intro y hy
    unfold riseFrom at h
    simp only [Bool.and_eq_true] at h
    rcases List.mem_cons.1 hy with rfl | hy
    · have := h.1.1
      unfold keyOk at this
      simp only [Bool.and_eq_true, decide_eq_true_eq] at this
      exact this.2
    · exact ih h.2 y hy
theorem leaf_sizes {l : List PairD} (h : leafP l = true) : l.length ≤ 6 ∧ ∀ x ∈ l, x.1.size ≤ 48 ∧ x.2.size ≤ 100 := by
  unfold leafP riseP at h
  simp only [Bool.and_eq_true, decide_eq_true_eq, List.all_eq_true] at h
  exact ⟨h.1.2, fun x hx => ⟨riseFrom_size h.2 _ (List.mem_map_of_mem hx), h.1.1.1 x hx⟩⟩
theorem pairsL_bound {l : List PairD} (h : ∀ x ∈ l, x.1.size ≤ 48 ∧ x.2.size ≤ 100) : (pairsL l).length ≤ l.length * 150 := by
  induction l with
  | nil => simp [pairsL]
  | cons x l ih =>
    have h1 := h x (by simp)
    have := ih (fun y hy => h y (by simp [hy]))
    have e : pairsL (x :: l) = textL x.1 ++ textL x.2 ++ pairsL l := by unfold pairsL; rw [List.flatMap_cons]
    rw [e, List.length_append, List.length_append, textL_length, textL_length, List.length_cons]
    omega
theorem check_leaf {p : PageD} (h : p.check = true) (k : p.kind = 1) : leafP p.pairs = true := by
  unfold PageD.check at h
  rw [if_pos k] at h
  simp only [Bool.and_eq_true] at h
  exact h.1.1.1.1
theorem check_branch {p : PageD} (h : p.check = true) (k : p.kind = 2) : 1 ≤ p.keys.length ∧ p.keys.length ≤ 12 ∧ p.kids.length = p.keys.length + 1 ∧ riseP p.keys = true ∧ ∀ n ∈ p.kids, placeB n = true := by
  unfold PageD.check at h
  rw [if_neg (by omega), if_pos k] at h
  unfold PageD.fit at h
  simp only [Bool.and_eq_true, decide_eq_true_eq, Bool.not_eq_true', List.any_eq_false] at h
  exact ⟨h.1.1.1.1.1.1.1.1, h.1.1.1.1.1.1.1.2, h.1.1.1.1.1.1.2, h.1.1.1.1.1.2, fun n hn => by have := h.1.1.1.1.2 n hn; simpa using this⟩
theorem check_free {p : PageD} (h : p.check = true) (k : p.kind = 3) : (sortedB p.pages = true ∧ noAdjB p.pages = true) ∧ p.pages.length ≤ 200 ∧ (∀ n ∈ p.pages, placeB n = true) ∧ nextB p.next = true := by
  unfold PageD.check at h
  rw [if_neg (by omega), if_neg (by omega), if_pos k] at h
  simp only [Bool.and_eq_true, decide_eq_true_eq, Bool.not_eq_true', List.any_eq_false] at h
  exact ⟨h.1.1.1.1.1.1, h.1.1.1.1.1.2, fun n hn => by have := h.1.1.1.1.2 n hn; simpa using this, h.1.1.1.2⟩
theorem body_any {p : PageD} {pa ka da ga : Option Addr} {pc kc dc gc : Nat} (w : World)
    (h : PageIn [] w p (.slice pa p.pairs.length pc) (.slice ka p.keys.length kc) (.slice da p.kids.length dc) (.slice ga p.pages.length gc)) (hc : p.check = true) :
    Calls Tryz.prog 178 #[.agg (pageCells p (.slice pa p.pairs.length pc) (.slice ka p.keys.length kc) (.slice da p.kids.length dc) (.slice ga p.pages.length gc)).toArray] w (MadeB w p.body) := by
  by_cases k1 : p.kind = 1
  · have hl := leaf_sizes (check_leaf hc k1)
    have e : p.body = twoL [p.pairs.length] ++ pairsL p.pairs := by unfold PageD.body; rw [if_pos k1]
    rw [e]
    exact body_leaf w k1 h.pairs (by omega) (fun x hx => by have := hl.2 x hx; omega)
  by_cases k2 : p.kind = 2
  · have hb := check_branch hc k2
    have e : p.body = twoL [p.keys.length, p.kids.headD 0] ++ keysL p.keys p.kids := by unfold PageD.body; rw [if_neg k1, if_pos k2]
    rw [e]
    exact body_branch w k2 h.keys h.kids (by omega) hb.2.2.1 (fun x hx => by have := riseFrom_size hb.2.2.2.1 x hx; omega)
  by_cases k3 : p.kind = 3
  · have hb := check_free hc k3
    have e : p.body = twoL ([(p.pages.length : Int)] ++ p.pages ++ [p.next]) := by unfold PageD.body; rw [if_neg k1, if_neg k2, if_pos k3]
    rw [e]
    exact body_free w k3 h.pages (by omega)
  · have e : p.body = twoL p.superL := by unfold PageD.body; rw [if_neg k1, if_neg k2, if_neg k3]
    rw [e]
    exact body_super w k1 k2 k3
theorem body_length {p : PageD} (hc : p.check = true) : p.body.length ≤ 1000 ∧ (p.kind = 4 → p.body.length = 12) := by
  by_cases k1 : p.kind = 1
  · have hl := leaf_sizes (check_leaf hc k1)
    have hb := pairsL_bound hl.2
    refine ⟨?_, fun k4 => by omega⟩
    unfold PageD.body
    rw [if_pos k1, List.length_append, twoL_length]
    simp only [List.length_cons, List.length_nil]
    omega
  by_cases k2 : p.kind = 2
  · have hb := check_branch hc k2
    have hl := keysL_length (ks := p.keys) (gs := p.kids) (m := 48) (fun x hx => riseFrom_size hb.2.2.2.1 x hx)
    refine ⟨?_, fun k4 => by omega⟩
    unfold PageD.body
    rw [if_neg k1, if_pos k2, List.length_append, twoL_length]
    simp only [List.length_cons, List.length_nil]
    omega
  by_cases k3 : p.kind = 3
  · have hb := check_free hc k3
    refine ⟨?_, fun k4 => by omega⟩
    unfold PageD.body
    rw [if_neg k1, if_neg k2, if_pos k3, twoL_length]
    simp only [List.length_append, List.length_cons, List.length_nil]
    omega
  · unfold PageD.body
    rw [if_neg k1, if_neg k2, if_neg k3, twoL_length]
    unfold PageD.superL
    simp
theorem enc_k {S : List Nat} {v : Value} {p : PageD} (s : Int) (w : World) (h : PageAt S w v p) (hs : p.small) (he0 : 0 ≤ p.epoch) (he1 : p.epoch < 18446744073709551616) :
    Calls Tryz.prog 133 #[.int .i64 s, v] w (encR w (p.okAt s) (p.encL s)) := by
  obtain ⟨pv, kv, dv, gv, rfl, hi⟩ := h.mono (S' := []) (by simp)
  obtain ⟨_, _, rfl, _⟩ := Slc.form hi.pairs
  obtain ⟨_, _, rfl, _⟩ := Slc.form hi.keys
  obtain ⟨_, _, rfl, _⟩ := Slc.form hi.kids
  obtain ⟨_, _, rfl, _⟩ := Slc.form hi.pages
  cases hb : p.okAt s with
  | false => exact (enc_bad w hi hs hb).mono fun e w' h => .inr ⟨rfl, h⟩
  | true =>
    have hc : p.check = true := by unfold PageD.okAt at hb; simp only [Bool.and_eq_true] at hb; exact hb.1
    have hbl := body_length hc
    by_cases k4 : p.kind = 4
    · have hs01 : s = 0 ∨ s = 1 := by unfold PageD.okAt at hb; simpa [k4, hc] using hb
      have e : p.encL s = superB (eightL p.epoch) (p.text s) := by unfold PageD.encL; rw [if_pos k4]
      rw [e]
      have hl := hbl.2 k4
      rcases hs01 with rfl | rfl
      · exact (enc_super0 w hi hs hb k4 he0 he1 (fun w1 hf => body_any w1 (hi.kept hf) hc) (by omega)).mono fun e w' h => .inl ⟨rfl, h⟩
      · exact (enc_super1 w hi hs hb k4 he0 he1 (fun w1 hf => body_any w1 (hi.kept hf) hc) (by omega)).mono fun e w' h => .inl ⟨rfl, h⟩
    · have e : p.encL s = plainL (p.text s) := by unfold PageD.encL; rw [if_neg k4]
      rw [e]
      exact (enc_plain w hi hs hb k4 (fun w1 hf => body_any w1 (hi.kept hf) hc) hbl.1).mono fun e w' h => .inl ⟨rfl, h⟩
end Go.Proofs.YtgpohemcfgepeaaGreat
