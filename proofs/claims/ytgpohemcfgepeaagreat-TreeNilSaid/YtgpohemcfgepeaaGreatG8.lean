/- a part. -/
import Derived.Test.YtgpohemcfgepeaaGreatG2
import Derived.RangeFuncBox
import Derived.RangeFuncNested
import Derived.RangeFuncBound
import Derived.RangeFuncCalls
import Derived.RangeFuncLeaves
import Derived.Shelf.Abstract
import Derived.Shelf.RegionOpen
import Derived.OwnWalkIn
import Derived.TacticsInMore
import Derived.LoopNIn
import Derived.LoopIn
import Derived.Maps.AppendAt
namespace Go.Proofs.YtgpohemcfgepeaaGreat
open Go.RowKit Go.MapKept Go.Shelf
attribute [local go_sem] Oper.semAt_some
abbrev SlK := Addr × Nat
def encK (x : SlK) : Value := .slice (some x.1) x.2 x.2
def partK (B off len m j : Nat) : SlK := (⟨B, off + m * j, none⟩, min m (len - m * j))
def partsK (B off len m k : Nat) : List SlK := (List.range k).map (partK B off len m)
theorem partsK_succ (B off len m k : Nat) : partsK B off len m (k + 1) = partsK B off len m k ++ [partK B off len m k] := by simp [partsK, List.range_succ]
theorem partsK_length (B off len m k : Nat) : (partsK B off len m k).length = k := by simp [partsK]
theorem Below.drew' (n₀ : Nat) (W : World) : Below n₀ W W.drew := (Below.refl n₀ W).drew
set_option maxRecDepth 100000 in
set_option maxHeartbeats 2000000 in
theorem chunk1_in (F : Fence) (n : Nat) (h7 : F.fn 201) (hro : F.round = none) (hn : 1 ≤ n) (l Bs Bn n₀ B off len cap : Nat) (hlen : len ≤ 100000) (hcap : len ≤ cap) (hb : Bs < n₀ ∧ Bn < n₀) (J Jx : List SlK → World → Prop) (hD : ∀ pre W, J pre W → J pre W.drew)
    (hY : ∀ pre x W, J pre W → pre.length < len → YieldAt F (n - 1) Tryz.prog l #[encK x] W fun e W' =>
      (e = .returned (.bool true) ∧ J (pre ++ [x]) W' ∧ Below n₀ W W') ∨ (e = .returned (.bool false) ∧ Jx (pre ++ [x]) W'))
    (W : World) (hBs : W.cell? ⟨Bs, 0, none⟩ = some (.slice (some ⟨B, off, none⟩) len cap)) (hBn : W.cell? ⟨Bn, 0, none⟩ = some (.int .i64 200)) (h0 : J [] W) :
    CallsIn F n Tryz.prog 201 #[.func (.yield l) #[] #[], .pointer (some ⟨Bs, 0, none⟩), .pointer (some ⟨Bn, 0, none⟩)] W fun e W' => (∃ v, e = .returned v) ∧
      ((∃ ys, ys = partsK B off len 200 ((len + 199) / 200) ∧ J ys W') ∨ (∃ pre, (∃ k, pre = partsK B off len 200 k) ∧ Jx pre W')) := by
  refine callsIn_of_wp Tryz.func201 rfl h7 ?_ hro
  simp only [Tryz.ntmps201, List.size_toArray, List.length_cons, List.length_nil, Nat.reduceAdd, Nat.reduceSub, Array.replicate_succ, Array.replicate_zero, List.push_toArray, List.append_toArray, List.nil_append, List.cons_append]
  gi_wp2
  gi_loopw [4] (fun i wr => ∃ k : Nat, 200 * k ≤ len + 199 ∧ i = .int .i64 ((200 * k : Nat) : Int) ∧ J (partsK B off len 200 k) wr ∧ Below n₀ W wr)
    (fun i _ => len - (intOf i).toNat)
  case atStart => exact ⟨0, by omega, rfl, h0, Below.refl _ _⟩
  case round =>
    obtain ⟨k, hk, rfl, hJs, hnx⟩ := hrel
    have HNX := Lib.hid hnx
    have c1 := (hnx.cell (p := ⟨Bs, 0, none⟩) hb.1).trans hBs
    have c2 := (hnx.cell (p := ⟨Bn, 0, none⟩) hb.2).trans hBn
    clear hnx
    obtain ⟨i, hi⟩ : ∃ i, 200 * k = i := ⟨_, rfl⟩
    have HI := Lib.hid hi
    rw [hi] at hk ⊢
    clear hi
    by_cases hlt : i < len
    · have hltI : (i : Int) < (len : Int) := by omega
      have hne : ¬ cap = i := by omega
      have hk2 : k < len := by have := HI.out; omega
      by_cases h2 : 200 ≤ len - i
      · have hJd := hD _ _ hJs
        have hp : partK B off len 200 k = (⟨B, off + i, none⟩, 200) := by unfold partK; rw [HI.out, Nat.min_eq_left h2]
        obtain ⟨fn, tmps, assign, body, hy, hR⟩ := hY _ (⟨B, off + i, none⟩, 200) wr.drew hJd (by rw [partsK_length]; omega)
        have HR := Lib.hid hR
        have HPS : Hid (partsK B off len 200 k ++ [(⟨B, off + i, none⟩, 200)] = partsK B off len 200 (k + 1)) := Lib.hid (by rw [partsK_succ, hp])
        have e1 : ((i : Int) + 200).toNat - i = 200 := by omega
        have h2I : (200 : Int) ≤ ((len - i : Nat) : Int) := by omega
        dsimp only [encK] at hy
        clear hR hp hJs h2
        gi_wp2
        gi_region
        all_goals
          gi_wp2
          refine HR.out.mono ?_
          rintro e W3 (⟨rfl, hJ3, hk3⟩ | ⟨rfl, hJx3⟩)
          · have HJ3 := Lib.hid hJ3
            have HN3 := Lib.hid ((HNX.out.trans (Below.drew' n₀ wr)).trans hk3)
            have c2' := (HN3.out.cell (p := ⟨Bn, 0, none⟩) hb.2).trans hBn
            clear hJ3 hk3 HR hy
            gi_wp2
            go_roundw
            case rel => exact ⟨k + 1, by have := HI.out; omega, by have := HI.out; simp; omega, by rw [← HPS.out]; exact HJ3.out, HN3.out⟩
            case measure => simp [intOf]; omega
          · have HQ : Hid ((∃ ys, ys = partsK B off len 200 ((len + 199) / 200) ∧ J ys W3) ∨ (∃ pre, (∃ k, pre = partsK B off len 200 k) ∧ Jx pre W3)) := Lib.hid (.inr ⟨_, ⟨k + 1, HPS.out⟩, hJx3⟩)
            clear hJx3 HR hy
            gi_wp2
            refine bodyPost_ret (results_none rfl _ _ _) rfl ?_
            exact ⟨⟨_, rfl⟩, HQ.out⟩
      · have hJd := hD _ _ hJs
        have hp : partK B off len 200 k = (⟨B, off + i, none⟩, len - i) := by unfold partK; rw [HI.out, Nat.min_eq_right (by omega)]
        obtain ⟨fn, tmps, assign, body, hy, hR⟩ := hY _ (⟨B, off + i, none⟩, len - i) wr.drew hJd (by rw [partsK_length]; omega)
        have HR := Lib.hid hR
        have HPS : Hid (partsK B off len 200 k ++ [(⟨B, off + i, none⟩, len - i)] = partsK B off len 200 (k + 1)) := Lib.hid (by rw [partsK_succ, hp])
        have e1 : ((i : Int) + ((len - i : Nat) : Int)).toNat - i = len - i := by omega
        have h2I : ((len - i : Nat) : Int) < 200 := by omega
        dsimp only [encK] at hy
        clear hR hp hJs h2
        gi_wp2
        gi_region
        all_goals
          gi_wp2
          refine HR.out.mono ?_
          rintro e W3 (⟨rfl, hJ3, hk3⟩ | ⟨rfl, hJx3⟩)
          · have HJ3 := Lib.hid hJ3
            have HN3 := Lib.hid ((HNX.out.trans (Below.drew' n₀ wr)).trans hk3)
            have c2' := (HN3.out.cell (p := ⟨Bn, 0, none⟩) hb.2).trans hBn
            clear hJ3 hk3 HR hy
            gi_wp2
            go_roundw
            case rel => exact ⟨k + 1, by have := HI.out; omega, by have := HI.out; simp; omega, by rw [← HPS.out]; exact HJ3.out, HN3.out⟩
            case measure => simp [intOf]; omega
          · have HQ : Hid ((∃ ys, ys = partsK B off len 200 ((len + 199) / 200) ∧ J ys W3) ∨ (∃ pre, (∃ k, pre = partsK B off len 200 k) ∧ Jx pre W3)) := Lib.hid (.inr ⟨_, ⟨k + 1, HPS.out⟩, hJx3⟩)
            clear hJx3 HR hy
            gi_wp2
            refine bodyPost_ret (results_none rfl _ _ _) rfl ?_
            exact ⟨⟨_, rfl⟩, HQ.out⟩
    · have hkk : k = (len + 199) / 200 := by have := HI.out; omega
      have HQ : Hid ((∃ ys, ys = partsK B off len 200 ((len + 199) / 200) ∧ J ys wr) ∨ (∃ pre, (∃ k, pre = partsK B off len 200 k) ∧ Jx pre wr)) := Lib.hid (.inl ⟨_, rfl, hkk ▸ hJs⟩)
      clear hJs hkk
      gi_wp2
      go_end0
      exact ⟨⟨_, rfl⟩, HQ.out⟩
end Go.Proofs.YtgpohemcfgepeaaGreat

namespace Go.Proofs.YtgpohemcfgepeaaGreat
open Go.RowKit Go.MapKept Go.Shelf
attribute [local go_sem] Oper.semAt_some
set_option maxRecDepth 100000 in
set_option maxHeartbeats 1000000 in
theorem chunk1_nil_in (F : Fence) (n : Nat) (h7 : F.fn 201) (hro : F.round = none) (l Bs Bn cap : Nat) (a : Option Addr) (J : List SlK → World → Prop) (W : World) (hBs : W.cell? ⟨Bs, 0, none⟩ = some (.slice a 0 cap)) (h0 : J [] W) :
    CallsIn F n Tryz.prog 201 #[.func (.yield l) #[] #[], .pointer (some ⟨Bs, 0, none⟩), .pointer (some ⟨Bn, 0, none⟩)] W fun e W' => (∃ v, e = .returned v) ∧ J [] W' := by
  refine callsIn_of_wp Tryz.func201 rfl h7 ?_ hro
  simp only [Tryz.ntmps201, List.size_toArray, List.length_cons, List.length_nil, Nat.reduceAdd, Nat.reduceSub, Array.replicate_succ, Array.replicate_zero, List.push_toArray, List.append_toArray, List.nil_append, List.cons_append]
  gi_wp2
  gi_loopw [4] (fun i wr => i = .int .i64 0 ∧ wr = W) (fun _ _ => 0)
  case atStart => exact ⟨rfl, rfl⟩
  case round =>
    obtain ⟨rfl, rfl⟩ := hrel
    gi_wp2
    go_end0
    exact ⟨⟨_, rfl⟩, h0⟩
def partsV (v : Value) (len m : Nat) : List SlK := match v with
  | .slice (some a) _ _ => partsK a.block a.off len m ((len + (m - 1)) / m)
  | _ => []
theorem chunk_stops {S : List Nat} (F : Fence) (n : Nat) (h7 : F.fn 201) (hro : F.round = none) (hn : 1 ≤ n) (Bs Bn n₀ : Nat) (v : Value) (l : List Int) (hl : l.length ≤ 100000) (w : World) (hB : Bs < n₀ ∧ Bn < n₀) (hn₀ : n₀ ≤ w.heap.size)
    (hc : w.cell? ⟨Bs, 0, none⟩ = some v) (hc2 : w.cell? ⟨Bn, 0, none⟩ = some (.int .i64 200)) (hv : Ints S w v l) (hne : l ≠ []) :
    SeqStopsK F n Tryz.prog 201 #[.pointer (some ⟨Bs, 0, none⟩), .pointer (some ⟨Bn, 0, none⟩)] (fun x : SlK => #[encK x]) (Below n₀) (fun ys => ys = partsV v l.length 200) (fun _ => True) l.length w := fun lp J Jx W hW hJ _ hY h0 => by
  have hc' := (hW.cell (p := ⟨Bs, 0, none⟩) (by show Bs < _; omega)).trans hc
  have hc2' := (hW.cell (p := ⟨Bn, 0, none⟩) (by show Bn < _; omega)).trans hc2
  rcases hv with ⟨a, cap, rfl, h1, h2, _⟩ | ⟨B, off, cap, rfl, hcp, _, _⟩
  · exact absurd (List.eq_nil_of_length_eq_zero h1) hne
  · refine (chunk1_in F n h7 hro hn lp Bs Bn n₀ B off l.length cap hl hcp hB J Jx (fun pre W1 h => hJ pre W1 _ none h ⟨rfl, rfl, rfl, Nat.le_refl _, fun _ _ _ => rfl⟩ (fun r e => by cases e)) hY W hc' hc2' h0).mono ?_
    rintro e W' ⟨he, ⟨ys, rfl, hj⟩ | ⟨pre, ⟨k, rfl⟩, hj⟩⟩
    · exact ⟨he, .inl ⟨_, rfl, hj⟩⟩
    · exact ⟨he, .inr ⟨_, trivial, hj⟩⟩
theorem Tryz.infoInts : (Tryz.prog.info? 70).map (fun i => (i.zero, i.size, i.bytes)) = some (some (.slice none 0 0), 1, 24) := by kernel_rfl
set_option maxRecDepth 100000 in
set_option maxHeartbeats 2000000 in
theorem appendSeq_in {N : Nat} {Ys : List SlK} (F : Fence) (n : Nat) (h3 : F.fn 200) (h7 : F.fn 201) (hro : F.round = none) (hn : 3 ≤ n) (Bs Bn : Nat) (hN : N ≤ 100000) (w : World)
    (hS : ∀ m w', 1 ≤ m → Below w.heap.size w w' → SeqStopsK F m Tryz.prog 201 #[.pointer (some ⟨Bs, 0, none⟩), .pointer (some ⟨Bn, 0, none⟩)] (fun x : SlK => #[encK x]) (Below w.heap.size) (fun ys => ys = Ys) (fun _ => True) N w') :
    CallsIn F n Tryz.prog 200 #[.slice none 0 0, .func (.func 201) #[] #[.pointer (some ⟨Bs, 0, none⟩), .pointer (some ⟨Bn, 0, none⟩)]] w fun e W' => ∃ v, e = .returned v ∧ W'.ownsRow w.heap.size 70 1 v Ys.length (Ys.map encK) ∧ Below w.heap.size w W' := by
  have h1 : 1 ≤ n := by omega
  obtain ⟨i0, hi, hz0, hz1, hz2⟩ := info_parts Tryz.infoInts
  refine callsIn_of_wp_marks Tryz.func200 rfl h3 ?_ hro
  simp only [Tryz.ntmps200, List.size_toArray, List.length_cons, List.length_nil, Nat.reduceAdd, Nat.reduceSub, Array.replicate_succ, Array.replicate_zero, List.push_toArray, List.append_toArray, List.nil_append, List.cons_append]
  gi_wp2
  have bO := Boxed.new w 121 (.slice none 0 0)
  have hB0 : Below w.heap.size w (w.alloc (.cells #[.slice none 0 0] 121)) := (Below.refl _ w).alloc (Nat.le_refl _) _
  refine wpIn_rangeFunc_ownG hro h1 (gf := 201) (lb := #[.pointer (some ⟨Bs, 0, none⟩), .pointer (some ⟨Bn, 0, none⟩)]) rfl h7 (enters_of Tryz.func201 (by kernel_rfl) rfl)
    (hS (n - 1) _ (by omega) hB0) belowK_t (belowK_b (by simp)) (Below.refl _ _) (fun _ => rfl)
    (fun pre W => (∃ v, Boxed W w.heap.size 121 v ∧ W.ownsRow w.heap.size 70 1 v pre.length (pre.map encK) ∧ (v = .slice none 0 0 ↔ pre = [])) ∧ Below w.heap.size w W)
    (fun _ _ _ => False)
    (OwnFrom.and (Own.from (holdsRow_own w.heap.size w.heap.size 121 70 1 (fun pre => pre.length) (fun pre : List SlK => pre.map encK) (fun pre v => v = .slice none 0 0 ↔ pre = [])) _) (ownFrom_below (Nat.le_refl _) (by simp)))
    (fun _ _ _ _ _ hs _ _ => hs)
    ⟨⟨_, bO, World.ownsRow_nil _ _ _ _, by simp⟩, hB0⟩
    (fun x => { tmps := #[.slice none 0 0, .func (.func 201) #[] #[.pointer (some ⟨Bs, 0, none⟩), .pointer (some ⟨Bn, 0, none⟩)], .pointer (some ⟨w.heap.size, 0, none⟩), undef, .slice none 0 0, encK x, .func (.func 201) #[] #[.pointer (some ⟨Bs, 0, none⟩), .pointer (some ⟨Bn, 0, none⟩)], encK x, undef, undef, undef, undef, undef], defers := [] }) ?assign ?body ?done ?stop
  case assign =>
    intro l x W K hK
    gi_wp2
    exact hK
  case body =>
    rintro l pre x W ⟨⟨v, hv, hrow, hnil⟩, hB⟩ hlt
    have hc := hv.cell
    unfold encK
    gi_wp2_with (gi_at_builtin; refine wpListIn_append_own _ rfl _ _ 121 rfl w.heap.size 70 i0 (.slice none 0 0) 1 24 Tryz.underlying121 hi hz0 hz1 hz2 rfl (by decide) _ _ _ rfl (hrow.alloc _) ⟨W.heap.size, 0, none⟩ 1 1 [.slice (some x.1) x.2 x.2] rfl rfl (cell_one_new _ _ _) (by simp [Value.oneCell']) (by unfold maxLen; omega) (by omega) (by have := hB.size; simp; omega) ?_; intro v' w1 hown' hgrow _; obtain ⟨g', cap', rfl⟩ := ownsRow_succ hown'; obtain ⟨hv1, hv2, hr2, hk2, hb2⟩ := hv.appended (by decide) hrow hB.size (Nat.le_refl _) hown' hgrow; have hc1 := hv1.cell; have hf1 := hv1.frozen)
    exact ⟨hk2.from _, hb2, ⟨_, hv2, by rw [List.map_append, List.length_append]; exact hr2, by simp⟩, hB.trans hb2⟩
  case done =>
    rintro D ys W hD rfl ⟨⟨v, hv, hrow, hnil⟩, hB⟩ hK
    have hc := hv.cell
    gi_wp2
    refine ⟨by simp, .inl ⟨_, _, rfl, run_takeDeferred hK, ?_⟩⟩
    exact ⟨_, results_tmp rfl _ _ _, v, rfl, ownsRow_putObj hrow _ hK rfl, hB.trans (belowK_b (w := w) (Nat.le_refl _) W D _ _ (by simp at hD; omega) hK rfl rfl)⟩
  case stop =>
    rintro D c pre W _ _ h _
    exact h.elim
set_option maxRecDepth 100000 in
set_option maxHeartbeats 1000000 in
theorem chunk_k (a : Option Addr) (len cap : Nat) (w : World) :
    Calls Tryz.prog 184 #[.slice a len cap, .int .i64 200] w fun e w' => e = .returned (.func (.func 201) #[] #[.pointer (some ⟨w.heap.size, 0, none⟩), .pointer (some ⟨w.heap.size + 1, 0, none⟩)]) ∧ (w.alloc (.cells #[.slice a len cap] 70)).alloc (.cells #[.int .i64 200] 3) = w' := by
  have hmf : ∀ (fn : Fn) (first cap : Array Value) (w : World), (Instr.makeFunc fn first cap).run Tryz.prog w = .ok (.func fn first cap) w := fun _ _ _ _ => rfl
  go_enter Tryz.func184, Tryz.ntmps184
  go_wp2
  go_ret
  exact ⟨rfl, rfl⟩
def chunkL (m : Nat) (l : List Int) : List (List Int) := (List.range ((l.length + (m - 1)) / m)).map fun k => (l.drop (m * k)).take m
theorem chunkL_nil (m : Nat) (hm : 0 < m) : chunkL m [] = [] := by
  unfold chunkL
  rw [List.length_nil, Nat.zero_add, Nat.div_eq_of_lt (by omega)]; rfl
set_option maxRecDepth 100000 in
set_option maxHeartbeats 1000000 in
theorem appendSeq_nil_in (F : Fence) (n : Nat) (h3 : F.fn 200) (h7 : F.fn 201) (hro : F.round = none) (hn : 3 ≤ n) (a : Option Addr) (cap Bs Bn : Nat) (w : World) (hc : w.cell? ⟨Bs, 0, none⟩ = some (.slice a 0 cap)) :
    CallsIn F n Tryz.prog 200 #[.slice none 0 0, .func (.func 201) #[] #[.pointer (some ⟨Bs, 0, none⟩), .pointer (some ⟨Bn, 0, none⟩)]] w fun e W' => ∃ v, e = .returned v ∧ W'.ownsRow w.heap.size 70 1 v ([] : List SlK).length (([] : List SlK).map encK) ∧ Below w.heap.size w W' :=
  appendSeq_in (N := 0) F n h3 h7 hro hn Bs Bn (by omega) w fun m w' hm hb => fun lp J Jx W hW hJ _ hY h0 => by
    have hl := lt_of_cell hc
    have hs := hb.size
    have hc' : W.cell? ⟨Bs, 0, none⟩ = some (.slice a 0 cap) := (hW.cell (p := ⟨Bs, 0, none⟩) (by show Bs < _; exact Nat.lt_of_lt_of_le hl hs)).trans ((hb.cell (p := ⟨Bs, 0, none⟩) hl).trans hc)
    exact (chunk1_nil_in F m h7 hro lp Bs Bn cap a J W hc' h0).mono fun e W' ⟨he, hj⟩ => ⟨he, .inl ⟨_, rfl, hj⟩⟩
theorem parts_rows {S : List Nat} {w : World} {B off cap : Nat} {l : List Int} (h : Ints S w (.slice (some ⟨B, off, none⟩) l.length cap) l) (_ : l.length ≤ cap) (k : Nat) (hk : 200 * k < l.length) :
    Ints S w (encK (partK B off l.length 200 k)) ((l.drop (200 * k)).take 200) := by
  rcases h with ⟨a, c, h, h0, hl, _⟩ | ⟨B', off', cap', h, hcc, hs, hcs⟩
  · rw [h0] at hk; omega
  · cases h
    refine .inr ⟨B, off + 200 * k, min 200 (l.length - 200 * k), ?_, ?_, ?_, ?_⟩
    · unfold encK partK
      simp only [List.length_take, List.length_drop]
    · simp only [List.length_take, List.length_drop]; omega
    · exact hs.imp (fun h => by simp at h; simp [h]) id
    · rw [List.map_take, List.map_drop]
      exact (hcs.drop (200 * k)).take 200
set_option maxRecDepth 100000 in
set_option maxHeartbeats 1000000 in
theorem collect_k {v : Value} {l : List Int} (Bs Bn : Nat) (w : World) (hl : l.length ≤ 100000) (hc : w.cell? ⟨Bs, 0, none⟩ = some v) (hc2 : w.cell? ⟨Bn, 0, none⟩ = some (.int .i64 200)) (hv : Ints [] w v l) :
    Calls Tryz.prog 183 #[.func (.func 201) #[] #[.pointer (some ⟨Bs, 0, none⟩), .pointer (some ⟨Bn, 0, none⟩)]] w fun e w' => ∃ v', e = .returned v' ∧ (∀ S : List Nat, (∀ x, x ∈ S → x < w.heap.size) → Ints S w v l → IntRows S w' v' (chunkL 200 l)) ∧ Fr [] w w' := by
  have hap : ∃ Ys : List SlK, Ys.length = (chunkL 200 l).length ∧ (∀ (S : List Nat), Ints S w v l → ∀ (i : Nat) (x : SlK) (y : List Int), Ys[i]? = some x → (chunkL 200 l)[i]? = some y → Ints S w (encK x) y) ∧
      Calls Tryz.prog 200 #[.slice none 0 0, .func (.func 201) #[] #[.pointer (some ⟨Bs, 0, none⟩), .pointer (some ⟨Bn, 0, none⟩)]] w fun e W' => ∃ v, e = .returned v ∧ W'.ownsRow w.heap.size 70 1 v Ys.length (Ys.map encK) ∧ Below w.heap.size w W' := by
    by_cases hne : l = []
    · subst hne
      obtain ⟨a, cap, rfl, _⟩ := Slc.form hv
      refine ⟨[], by rw [chunkL_nil 200 (by decide)]; rfl, by simp, (callsIn_wide (n := 3)).1 (appendSeq_nil_in Fence.wide 3 trivial trivial rfl (Nat.le_refl _) a cap Bs Bn w hc)⟩
    · rcases hv with ⟨a, cap, rfl, h1, h2, _⟩ | ⟨B, off, cap, rfl, hcp, hs, hcs⟩
      · exact absurd (List.eq_nil_of_length_eq_zero h1) hne
      · have hv' : Ints [] w (.slice (some ⟨B, off, none⟩) l.length cap) l := .inr ⟨B, off, cap, rfl, hcp, hs, hcs⟩
        refine ⟨partsK B off l.length 200 ((l.length + 199) / 200), by rw [partsK_length]; unfold chunkL; rw [List.length_map, List.length_range], ?_, (callsIn_wide (n := 3)).1 (appendSeq_in (N := l.length) Fence.wide 3 trivial trivial rfl (Nat.le_refl _) Bs Bn hl w fun m w' hm hb => ?_)⟩
        · intro S hvS i x y hx hy
          unfold partsK at hx
          unfold chunkL at hy
          rw [List.getElem?_map] at hx hy
          by_cases hi : i < (l.length + 199) / 200
          · rw [List.getElem?_range hi] at hx
            rw [List.getElem?_range (by omega)] at hy
            simp only [Option.map_some, Option.some.injEq] at hx hy
            subst hx; subst hy
            exact parts_rows hvS hcp i (by omega)
          · rw [List.getElem?_eq_none (by simpa using hi)] at hx; cases hx
        · have h1 := lt_of_cell hc
          have h2 := lt_of_cell hc2
          have hf : Fr [] w w' := ⟨hb.os, hb.tape, hb.output, hb.size, fun k hk _ => hb.block k hk⟩
          exact chunk_stops Fence.wide m trivial rfl hm Bs Bn w.heap.size _ l hl w' ⟨h1, h2⟩ hb.size (hf.cellSome hc (by simp)) (hf.cellSome hc2 (by simp)) (hv'.kept hf) hne
  obtain ⟨Ys, hyl, hyr, hcall⟩ := hap
  have HC := Lib.hid hcall
  have HY := Lib.hid (And.intro hyl hyr)
  clear hyl hyr hcall hc hc2 hv hl
  go_enter Tryz.func183, Tryz.ntmps183
  go_wp2_with fail
  refine HC.out.mono ?_
  rintro e w2 ⟨v2, rfl, hrow, hb⟩
  have hf : Fr [] w w2 := ⟨hb.os, hb.tape, hb.output, hb.size, fun k hk _ => hb.block k hk⟩
  have HQ : Hid ((∀ S : List Nat, (∀ x, x ∈ S → x < w.heap.size) → Ints S w v l → IntRows S w2 v2 (chunkL 200 l)) ∧ Fr [] w w2) := Lib.hid ⟨fun S hS hvS => ⟨Ys.map encK, by rw [List.length_map]; exact HY.out.1, by have := Slc.ofOwns (S := S) hrow hS; rw [← HY.out.1]; exact this, fun i x y hx hy => by
    rw [List.getElem?_map] at hx
    cases hq : Ys[i]? with
    | none => rw [hq] at hx; cases hx
    | some z =>
      rw [hq] at hx
      cases hx
      exact (HY.out.2 S hvS i z y hq hy).kept hf.nil⟩, hf⟩
  clear hrow hb hf HC
  go_wp2
  go_ret
  exact ⟨_, rfl, HQ.out⟩
def PoolD.listsP (p : PoolD) : List (List Int) := chunkL 200 p.turn.free
set_option maxRecDepth 100000 in
set_option maxHeartbeats 1000000 in
theorem lists_k {S : List Nat} {v : Value} {p : PoolD} (w : World) (h : PoolAt S w v p) (hs : p.small) :
    Calls Tryz.prog 141 #[v] w fun e w' => ∃ v', e = .returned v' ∧ (∀ S : List Nat, (∀ x, x ∈ S → x < w.heap.size) → IntRows S w' v' p.listsP) ∧ Fr [] w w' := by
  have h0 := h.mono (S' := []) (by simp)
  obtain ⟨fv, lv, rfl, hfr, hlm⟩ := h
  have hal := Fr.alloc1 w (.cells #[.int .i64 p.high, fv, lv] 107)
  obtain ⟨W1, hW1⟩ : ∃ W1, w.alloc (.cells #[.int .i64 p.high, fv, lv] 107) = W1 := ⟨_, rfl⟩
  have hb := blk_new w (.cells #[.int .i64 p.high, fv, lv] 107)
  rw [hW1] at hal hb
  have c0 := blk_cell hb 0
  have c1 := blk_cell hb 1
  have c2 := blk_cell hb 2
  simp only [List.getElem?_toArray, List.getElem?_cons_zero, List.getElem?_cons_succ] at c0 c1 c2
  have HT := Lib.hid (turn_k W1 (h0.kept hal) hs)
  have HF := Lib.hid hal
  have hlen : p.turn.free.length ≤ 20000 := by unfold PoolD.turn; rw [turnL_length]; have := hs.1; have := hs.2; omega
  have HLN := Lib.hid hlen
  have hx : ∃ a l c, fv = .slice a l c := by obtain ⟨a, c, rfl, _⟩ := Slc.form hfr; exact ⟨a, _, c, rfl⟩
  have hy : ∃ a l c, lv = .slice a l c := by obtain ⟨a, c, rfl, _⟩ := Slc.form hlm; exact ⟨a, _, c, rfl⟩
  obtain ⟨fa, fl, fc, rfl⟩ := hx
  obtain ⟨la, ll, lc, rfl⟩ := hy
  clear h0 hfr hlm hal hb hs hlen
  go_enter Tryz.func141, Tryz.ntmps141
  go_wp2_with fail
  with_reducible refine HT.out.mono ?_
  rintro e w2 ⟨v2, rfl, hn2, hf2⟩
  obtain ⟨fv2, lv2, rfl, hi2, hl2⟩ := hn2 [] (by simp)
  obtain ⟨a2, cc2, rfl, _⟩ := Slc.form hi2
  obtain ⟨b2, cd2, rfl, _⟩ := Slc.form hl2
  have hal2 := (Fr.alloc1 w2 (.cells #[.slice a2 p.turn.free.length cc2] 70)).trans (Fr.alloc1 _ (.cells #[.int .i64 200] 3))
  have HCH := Lib.hid (chunk_k a2 p.turn.free.length cc2 w2)
  have HCL := Lib.hid (collect_k w2.heap.size (w2.heap.size + 1) ((w2.alloc (.cells #[.slice a2 p.turn.free.length cc2] 70)).alloc (.cells #[.int .i64 200] 3)) (by have := HLN.out; omega)
    ((Fr.alloc1 _ (.cells #[.int .i64 200] 3)).cellSome (by rw [blk_cell (blk_new w2 _) 0]; rfl) (by simp))
    (by simp) (hi2.kept hal2))
  have HF2 := Lib.hid ((HF.out.trans hf2).trans hal2)
  have HNP : Hid (∀ S : List Nat, (∀ x, x ∈ S → x < w.heap.size) → (∀ x, x ∈ S → x < ((w2.alloc (.cells #[.slice a2 p.turn.free.length cc2] 70)).alloc (.cells #[.int .i64 200] 3)).heap.size) ∧
      Ints S ((w2.alloc (.cells #[.slice a2 p.turn.free.length cc2] 70)).alloc (.cells #[.int .i64 200] 3)) (.slice a2 p.turn.free.length cc2) p.turn.free) := Lib.hid fun S hS => by
    have h1 := HF.out.size
    have h2 := hf2.size
    obtain ⟨fv3, lv3, he, hi3, _⟩ := hn2 S (fun x hx => by have := hS x hx; omega)
    simp only [Value.agg.injEq, Array.mk.injEq, List.cons.injEq, and_true, true_and] at he
    rw [← he.1] at hi3
    exact ⟨fun x hx => by have := hS x hx; simp; omega, hi3.kept hal2.nil⟩
  generalize p.turn.free.length = tl at *
  clear hn2 hi2 hl2 hf2 hal2 HT HF hW1 c0 c1 c2
  have hfd : ∀ (h : Int) (a b : Option Addr) (l c m d : Nat) (w : World), (Instr.field 107 (.agg #[.int .i64 h, .slice a l c, .slice b m d]) 1).run Tryz.prog w = .ok (.slice a l c) w := fun _ _ _ _ _ _ _ _ => by kernel_rfl
  go_wp2_with fail
  with_reducible refine HCH.out.mono ?_
  rintro e w3 ⟨rfl, rfl⟩
  go_wp2_with fail
  with_reducible refine HCL.out.mono ?_
  rintro e w4 ⟨v4, rfl, hr4, hf4⟩
  have HQ : Hid ((∀ S : List Nat, (∀ x, x ∈ S → x < w.heap.size) → IntRows S w4 v4 p.listsP) ∧ Fr [] w w4) := Lib.hid ⟨fun S hS => hr4 S (HNP.out S hS).1 (HNP.out S hS).2, HF2.out.trans hf4⟩
  clear hr4 hf4 HCL HCH
  go_wp2
  go_ret
  exact ⟨_, rfl, HQ.out⟩
end Go.Proofs.YtgpohemcfgepeaaGreat
