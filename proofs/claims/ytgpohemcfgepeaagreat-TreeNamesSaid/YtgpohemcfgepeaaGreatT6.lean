/- a part. -/
import Derived.Test.YtgpohemcfgepeaaGreatT5
import Derived.Test.YtgpohemcfgepeaaGreatT1
import Derived.Test.YtgpohemcfgepeaaGreatT4
import Derived.BigRegion
import Derived.Outline
import Derived.Deep.RegionHeld3
namespace Go.Proofs.YtgpohemcfgepeaaGreat
open Go.RowKit Go.MapKept
theorem Slc.takeN {S : List Nat} {w : World} {B off n cap : Nat} {cs : List Value} (s : Nat) (h : Slc S w (.slice (some ⟨B, off, none⟩) n cap) n cs) {k : Nat} (hk : k ≤ n) :
    Slc S w (.slice (some ⟨B, off, none⟩) k cap) k (cs.take (k * s)) := by
  rcases h with ⟨a, c, h, h0, hl, _⟩ | ⟨B', off', cap', h, hc, hs, hcs⟩
  · obtain rfl : k = 0 := by omega
    exact .inl ⟨_, cap, rfl, rfl, by simp, fun h => by cases h⟩
  · cases h
    refine .inr ⟨B, off, cap, rfl, by omega, ?_, ?_⟩
    · exact hs.imp (fun h => by simp [h]) id
    · exact hcs.take _
theorem Slc.dropN {S : List Nat} {w : World} {B off n cap : Nat} {cs : List Value} (s : Nat) (h : Slc S w (.slice (some ⟨B, off, none⟩) n cap) n cs) {k : Nat} (hk : k ≤ n) :
    Slc S w (.slice (some ⟨B, off + k * s, none⟩) (n - k) (cap - k)) (n - k) (cs.drop (k * s)) := by
  rcases h with ⟨a, c, h, h0, hl, _⟩ | ⟨B', off', cap', h, hc, hs, hcs⟩
  · obtain rfl : k = 0 := by omega
    subst h0
    exact .inl ⟨_, cap - 0, rfl, rfl, by simp [hl], fun h => by cases h⟩
  · cases h
    refine .inr ⟨B, off + k * s, cap - k, rfl, by omega, ?_, ?_⟩
    · exact hs.imp (fun h => by simp [h]) id
    · exact hcs.drop _
theorem prCells_take (k : Nat) : ∀ l : List PairD, prCells (l.take k) = (prCells l).take (k * 2) := by
  induction k with
  | zero => intro l; simp [prCells]
  | succ k ih =>
    intro l
    cases l with
    | nil => simp [prCells]
    | cons x l =>
      have := ih l
      unfold prCells at this ⊢
      rw [List.take_succ_cons, List.flatMap_cons, List.flatMap_cons, this, show (k + 1) * 2 = k * 2 + 1 + 1 by omega]
      rfl
theorem prCells_drop (k : Nat) : ∀ l : List PairD, prCells (l.drop k) = (prCells l).drop (k * 2) := by
  induction k with
  | zero => intro l; simp
  | succ k ih =>
    intro l
    cases l with
    | nil => simp [prCells]
    | cons x l =>
      have := ih l
      unfold prCells at this ⊢
      rw [List.drop_succ_cons, List.flatMap_cons, this, show (k + 1) * 2 = k * 2 + 1 + 1 by omega]
      rfl
theorem Prs.take {S : List Nat} {w : World} {B off cap : Nat} {l : List PairD} (h : Prs S w (.slice (some ⟨B, off, none⟩) l.length cap) l) {k : Nat} (hk : k ≤ l.length) : Prs S w (.slice (some ⟨B, off, none⟩) k cap) (l.take k) := by
  unfold Prs at *
  rw [List.length_take, Nat.min_eq_left hk, prCells_take]
  exact Slc.takeN 2 h hk
theorem Prs.drop {S : List Nat} {w : World} {B off cap : Nat} {l : List PairD} (h : Prs S w (.slice (some ⟨B, off, none⟩) l.length cap) l) {k : Nat} (hk : k ≤ l.length) : Prs S w (.slice (some ⟨B, off + k * 2, none⟩) (l.length - k) (cap - k)) (l.drop k) := by
  unfold Prs at *
  rw [List.length_drop, prCells_drop]
  exact Slc.dropN 2 h hk
theorem Txts.take {S : List Nat} {w : World} {B off cap : Nat} {l : List ByteArray} (h : Txts S w (.slice (some ⟨B, off, none⟩) l.length cap) l) {k : Nat} (hk : k ≤ l.length) : Txts S w (.slice (some ⟨B, off, none⟩) k cap) (l.take k) := by
  unfold Txts at *
  rw [List.length_take, Nat.min_eq_left hk, List.map_take]
  have := Slc.takeN 1 h hk
  rwa [Nat.mul_one] at this
theorem Txts.drop {S : List Nat} {w : World} {B off cap : Nat} {l : List ByteArray} (h : Txts S w (.slice (some ⟨B, off, none⟩) l.length cap) l) {k : Nat} (hk : k ≤ l.length) : Txts S w (.slice (some ⟨B, off + k, none⟩) (l.length - k) (cap - k)) (l.drop k) := by
  unfold Txts at *
  rw [List.length_drop, List.map_drop]
  have := Slc.dropN 1 h hk
  rwa [Nat.mul_one] at this
theorem halves_results {tmps : Array Value} {w : World} {g1 g2 : Nat} {x0 x1 x2 x3 x4 x5 x6 x7 x8 x9 x10 y0 y1 y2 y3 y4 y5 y6 y7 y8 y9 y10 : Value} {k : ByteArray} (h2 : tmps.getD 2 undef = .pointer (some ⟨g1, 0, none⟩)) (h3 : tmps.getD 3 undef = .string k) (h4 : tmps.getD 4 undef = .pointer (some ⟨g2, 0, none⟩))
    (hp : w.heap[g1]? = some (.cells #[x0, x1, x2, x3, x4, x5, x6, x7, x8, x9, x10] 90 (0, 0))) (hq : w.heap[g2]? = some (.cells #[y0, y1, y2, y3, y4, y5, y6, y7, y8, y9, y10] 90 (0, 0))) :
    (results Tryz.f140 tmps).run Tryz.prog w = .ok (.tuple #[.agg #[x0, x1, x2, x3, x4, x5, x6, x7, x8, x9, x10], .string k, .agg #[y0, y1, y2, y3, y4, y5, y6, y7, y8, y9, y10]]) w := by
  obtain ⟨q0, q1, q2, q3, q4, q5, q6, q7, q8, q9, q10⟩ := c11 hp
  obtain ⟨r0, r1, r2, r3, r4, r5, r6, r7, r8, r9, r10⟩ := c11 hq
  rw [Array.getD_eq_getD_getElem?] at h2 h3 h4
  simp [results, Tryz.results140, go_sem, h2, h3, h4, q0, q1, q2, q3, q4, q5, q6, q7, q8, q9, q10, r0, r1, r2, r3, r4, r5, r6, r7, r8, r9, r10]
def HalfP (S : List Nat) (w : World) (p : PageD) (e : Ending) (w' : World) : Prop := ∃ va vb, e = .returned (.tuple #[va, .string (halfK p), vb]) ∧ PageAt S w' va (halfA p) ∧ PageAt S w' vb (halfB p) ∧ Fr [] w w'
set_option maxRecDepth 100000 in
set_option maxHeartbeats 2000000 in
theorem halves_leaf {S : List Nat} {p : PageD} {pv kv dv gv : Value} (w : World) (hp : PageIn S w p pv kv dv gv) (hk : p.kind = 1) (h0 : p.keys = []) (h1 : p.pairs.length ≤ 10000) (h2 : 2 ≤ p.pairs.length) :
    Calls Tryz.prog 140 #[.agg (pageCells p pv kv dv gv).toArray] w (HalfP S w p) := by
  obtain ⟨pa, pc, rfl, hpc⟩ := Slc.form hp.pairs
  obtain ⟨B, off, rfl⟩ : ∃ B off, pa = some ⟨B, off, none⟩ := by
    rcases hp.pairs with ⟨_, _, _, h0, _⟩ | ⟨B, off, cap, h, _⟩
    · omega
    · cases h; exact ⟨B, off, rfl⟩
  obtain ⟨ka, kc, rfl, _⟩ := Slc.form hp.keys
  have hsz := fun (w1 : World) (hf : Fr [] w w1) => size_k (S := []) w1 ((hp.mono (S' := []) (by simp)).kept hf) (by omega) (by rw [h0]; simp)
  have HP := Lib.hid hp
  have HK : Hid (p.pairs.length / 2 < p.pairs.length) := Lib.hid (by omega)
  rw [h0] at hsz
  obtain ⟨l, hl⟩ : ∃ l, p.pairs = l := ⟨_, rfl⟩
  rw [hl] at hsz h1 h2 hpc HK HP ⊢
  unfold pageCells at hsz ⊢
  rw [hk] at hsz ⊢
  rw [h0]
  obtain ⟨n, hn⟩ : ∃ n, l.length = n := ⟨_, rfl⟩
  rw [hn] at hsz h1 h2 hpc HK HP ⊢
  have HN := Lib.hid hn
  have HL := Lib.hid hl
  have HSZ := Lib.hid hsz
  clear hp hsz hl hn
  generalize p.next = q5 at *
  generalize p.epoch = q6 at *
  generalize p.root = q7 at *
  generalize p.depth = q8 at *
  generalize p.count = q9 at *
  generalize p.high = q10 at *
  have e0 : ([] : List ByteArray).length = 0 := rfl
  rw [e0] at HSZ ⊢
  clear e0
  have hnI : (n : Int) ≤ 10000 := by omega
  obtain ⟨c, hc⟩ : ∃ c : Nat, (n : Int) / 2 = c := ⟨n / 2, by omega⟩
  have HC := Lib.hid hc
  have hc0 : (0 : Int) ≤ c := by omega
  have hc1 : (c : Int) ≤ n := by omega
  have hc2 : (c : Int) ≤ pc := by omega
  have hc3 : (n : Int) ≤ pc := by omega
  have hcp : ¬ pc = c := by omega
  have HCN : Hid (c < n) := Lib.hid (by omega)
  clear hc
  obtain ⟨W3, hW3, hf3, hs3, b1, b2, b3⟩ := al3 w (.cells #[.int .i64 1, .slice (some ⟨B, off, none⟩) n pc, .slice ka 0 kc, dv, gv, .int .i64 q5, .int .u64 q6, .int .i64 q7, .int .i64 q8, .int .i64 q9, .int .i64 q10] 90) (.cells #[.int .i64 1, .slice none 0 0, .slice none 0 0, .slice none 0 0, .slice none 0 0, .int .i64 0, .int .u64 0, .int .i64 0, .int .i64 0, .int .i64 0, .int .i64 0] 90) (.cells #[.int .i64 1, .slice none 0 0, .slice none 0 0, .slice none 0 0, .slice none 0 0, .int .i64 0, .int .u64 0, .int .i64 0, .int .i64 0, .int .i64 0, .int .i64 0] 90)
  have HW3 := Lib.hid hW3
  have HS := Lib.hid hs3
  have HB := Lib.hid (And.intro b1 (And.intro b2 b3))
  have HF := Lib.hid hf3
  clear hW3 hs3 b1 b2 b3 hf3
  go_enter Tryz.func140, Tryz.ntmps140
  go_upto_region 1 with fail
  go_region
  rw [HW3.out]
  obtain ⟨r0, r1, r2, r3, r4, r5, r6, r7, r8, r9, r10⟩ := c11 HB.out.1
  go_wp2_with fail
  refine (HSZ.out _ HF.out.drew).mono ?_
  rintro e w2 ⟨rfl, hf2⟩
  have b1 := hf2.heap (show W3.drew.heap[w.heap.size]? = _ from HB.out.1) (by simp)
  have b2 := hf2.heap (show W3.drew.heap[w.heap.size + 1]? = _ from HB.out.2.1) (by simp)
  have b3 := hf2.heap (show W3.drew.heap[w.heap.size + 1 + 1]? = _ from HB.out.2.2) (by simp)
  have HF2 := Lib.hid (HF.out.drew.trans hf2)
  have HB2 := Lib.hid (And.intro b1 (And.intro b2 b3))
  clear r0 r1 r2 r3 r4 r5 r6 r7 r8 r9 r10
  obtain ⟨r0, r1, r2, r3, r4, r5, r6, r7, r8, r9, r10⟩ := c11 b1
  obtain ⟨s0, s1, s2, s3, s4, s5, s6, s7, s8, s9, s10⟩ := c11 b2
  obtain ⟨t0, t1, t2, t3, t4, t5, t6, t7, t8, t9, t10⟩ := c11 b3
  obtain ⟨y0, y1, y2, y3, y4, y5, y6, y7, y8, y9, y10⟩ := f11 b2
  obtain ⟨z0, z1, z2, z3, z4, z5, z6, z7, z8, z9, z10⟩ := f11 b3
  clear b1 b2 b3 hf2
  rw [show ((n + 0 : Nat) : Int) = n from rfl]
  go_upto_region 3 with fail
  rw [HC.out]
  go_upto_region 4 with fail
  go_region
  obtain ⟨W4, hW4, hf4, hs4, b2⟩ := st1 HB2.out.2.1 1 (.slice (some ⟨B, off, none⟩) c pc)
  obtain ⟨W5, hW5, hf5, hs5, b3⟩ := st1 (hf4.heap HB2.out.2.2 (by simp)) 1 (.slice (some ⟨B, off + c * 2, none⟩) (n - c) (pc - c))
  have b2 := hf5.heap b2 (by simp)
  have b1 := hf5.heap (hf4.heap HB2.out.1 (by rw [List.mem_singleton]; omega)) (by rw [List.mem_singleton]; omega)
  rw [hW4, hW5]
  have h45 : Fr [w.heap.size + 1, w.heap.size + 1 + 1] w2 W5 := (hf4.mono (by simp)).trans (hf5.mono (by simp))
  have HF5 := Lib.hid ((HF2.out.nil.trans h45).drop (fun x hx => by simp at hx; omega))
  have hprs := HP.out.pairs.kept HF5.out.nil
  rw [HL.out, ← HN.out] at hprs
  have hcl : c < l.length := by rw [HN.out]; exact HCN.out
  have ek : w.heap.size = w.heap.size := rfl
  have key := (Prs.at hprs hcl).1
  have hB : B < w.heap.size := by
    have h := HP.out.pairs
    rw [HL.out, ← HN.out] at h
    exact lt_of_cell (Prs.at h hcl).1
  have hB1 : ¬ B = w.heap.size + 1 := by omega
  have hB2 : ¬ B = w.heap.size + 1 + 1 := by omega
  obtain ⟨r0, r1, r2, r3, r4, r5, r6, r7, r8, r9, r10⟩ := c11 b1
  obtain ⟨s0, s1, s2, s3, s4, s5, s6, s7, s8, s9, s10⟩ := c11 b2
  obtain ⟨t0, t1, t2, t3, t4, t5, t6, t7, t8, t9, t10⟩ := c11 b3
  obtain ⟨y0, y1, y2, y3, y4, y5, y6, y7, y8, y9, y10⟩ := f11 b2
  obtain ⟨z0, z1, z2, z3, z4, z5, z6, z7, z8, z9, z10⟩ := f11 b3
  have HB5 := Lib.hid (And.intro b2 b3)
  clear b1 b2 b3 hf4 hf5 h45 hW4 hW5 hs4 hs5 hprs ek
  have hnc : 0 < n - c := by have := HCN.out; omega
  go_upto_region 5 with fail
  go_region
  go_wp2_with fail
  obtain ⟨Wa, hWa, fa, ba⟩ := st11 HB5.out.1 rfl (.int .i64 1) (.slice (some ⟨B, off, none⟩) c pc) nilV nilV nilV (.int .i64 0) (.int .u64 0) (.int .i64 0) (.int .i64 0) (.int .i64 0) (.int .i64 0)
  obtain ⟨Wb, hWb, fb, bb⟩ := st11 (fa.heap HB5.out.2 (by rw [List.mem_singleton]; omega)) rfl (.int .i64 1) (.slice (some ⟨B, off + c * 2, none⟩) (n - c) (pc - c)) nilV nilV nilV (.int .i64 0) (.int .u64 0) (.int .i64 0) (.int .i64 0) (.int .i64 0) (.int .i64 0)
  rw [hWa, hWb]
  have hsz : sizeD p / 2 = c := by
    unfold sizeD; rw [HL.out, h0, HN.out]
    have := HC.out
    show (n + 0) / 2 = c
    omega
  have ea : halfA p = leafPg (l.take c) := by unfold halfA; rw [if_pos hk, hsz, HL.out]
  have eb : halfB p = leafPg (l.drop c) := by unfold halfB; rw [if_pos hk, hsz, HL.out]
  have ec : halfK p = (l[c]).1 := by unfold halfK; rw [if_pos hk, hsz, HL.out, List.getElem?_eq_getElem hcl]
  have hff := (HF5.out.nil.trans ((fa.mono (S' := [w.heap.size + 1, w.heap.size + 1 + 1]) (by simp)).trans (fb.mono (by simp)))).drop (fun x hx => by simp at hx; omega)
  have hps := HP.out.pairs.kept hff.nil
  rw [HL.out, ← HN.out] at hps
  refine bodyPost_ret (v := .tuple #[.agg #[.int .i64 1, .slice (some ⟨B, off, none⟩) c pc, nilV, nilV, nilV, .int .i64 0, .int .u64 0, .int .i64 0, .int .i64 0, .int .i64 0, .int .i64 0], .string l[c].1, .agg #[.int .i64 1, .slice (some ⟨B, off + c * 2, none⟩) (n - c) (pc - c), nilV, nilV, nilV, .int .i64 0, .int .u64 0, .int .i64 0, .int .i64 0, .int .i64 0, .int .i64 0]])
    (halves_results rfl rfl rfl (fb.heap ba (by rw [List.mem_singleton]; omega)) bb) rfl ⟨_, _, by rw [ec], ?_, ?_, hff.drew.drew⟩
  · rw [ea]
    exact ⟨_, _, _, _, rfl, Prs.take hps (Nat.le_of_lt hcl), Slc.nil _ _, Slc.nil _ _, Slc.nil _ _⟩
  · rw [eb]
    refine ⟨_, _, _, _, rfl, ?_, Slc.nil _ _, Slc.nil _ _, Slc.nil _ _⟩
    have := Prs.drop hps (Nat.le_of_lt hcl)
    rw [HN.out] at this
    exact this
end Go.Proofs.YtgpohemcfgepeaaGreat

namespace Go.Proofs.YtgpohemcfgepeaaGreat
open Go.RowKit Go.MapKept
set_option maxRecDepth 100000 in
set_option maxHeartbeats 4000000 in
theorem halves_branch {S : List Nat} {p : PageD} {pv kv dv gv : Value} (w : World) (hp : PageIn S w p pv kv dv gv) (hk : p.kind = 2) (h0 : p.pairs = []) (h1 : p.keys.length ≤ 10000) (h2 : 3 ≤ p.keys.length) (h3 : p.kids.length = p.keys.length + 1) :
    Calls Tryz.prog 140 #[.agg (pageCells p pv kv dv gv).toArray] w (HalfP S w p) := by
  obtain ⟨ka, kc, rfl, hkc⟩ := Slc.form hp.keys
  obtain ⟨da, dc, rfl, hdc⟩ := Slc.form hp.kids
  obtain ⟨B, off, rfl⟩ : ∃ B off, ka = some ⟨B, off, none⟩ := by
    rcases hp.keys with ⟨_, _, _, h0, _⟩ | ⟨B, off, cap, h, _⟩
    · omega
    · cases h; exact ⟨B, off, rfl⟩
  obtain ⟨E, ef, rfl⟩ : ∃ B off, da = some ⟨B, off, none⟩ := by
    rcases hp.kids with ⟨_, _, _, h0, _⟩ | ⟨B, off, cap, h, _⟩
    · omega
    · cases h; exact ⟨B, off, rfl⟩
  obtain ⟨pa, pc, rfl, _⟩ := Slc.form hp.pairs
  have hsz := fun (w1 : World) (hf : Fr [] w w1) => size_k (S := []) w1 ((hp.mono (S' := []) (by simp)).kept hf) (by rw [h0]; simp) (by omega)
  have HP := Lib.hid hp
  rw [h0] at hsz
  obtain ⟨l, hl⟩ : ∃ l, p.keys = l := ⟨_, rfl⟩
  obtain ⟨gs, hgs⟩ : ∃ gs, p.kids = gs := ⟨_, rfl⟩
  rw [hl] at hsz h1 h2 hkc HP h3 ⊢
  rw [hgs] at hsz hdc HP h3 ⊢
  unfold pageCells at hsz ⊢
  rw [hk] at hsz ⊢
  rw [h0]
  obtain ⟨n, hn⟩ : ∃ n, l.length = n := ⟨_, rfl⟩
  obtain ⟨m, hm⟩ : ∃ m, gs.length = m := ⟨_, rfl⟩
  rw [hn] at hsz h1 h2 hkc HP h3 ⊢
  rw [hm] at hsz hdc HP h3 ⊢
  have HN := Lib.hid hn
  have HM := Lib.hid hm
  have HL := Lib.hid hl
  have HG := Lib.hid hgs
  have HSZ := Lib.hid hsz
  clear hp hsz hl hn hm hgs
  generalize p.next = q5 at *
  generalize p.epoch = q6 at *
  generalize p.root = q7 at *
  generalize p.depth = q8 at *
  generalize p.count = q9 at *
  generalize p.high = q10 at *
  have e0 : ([] : List PairD).length = 0 := rfl
  rw [e0] at HSZ ⊢
  clear e0
  have hnI : (n : Int) ≤ 10000 := by omega
  obtain ⟨c, hc⟩ : ∃ c : Nat, (n : Int) / 2 = c := ⟨n / 2, by omega⟩
  have HC := Lib.hid hc
  have hc0 : (0 : Int) ≤ c := by omega
  have hc1 : (c : Int) ≤ n := by omega
  have hc2 : (c : Int) ≤ kc := by omega
  have hc3 : (n : Int) ≤ kc := by omega
  have hd1 : (c : Int) + 1 ≤ m := by omega
  have hd2 : (c : Int) + 1 ≤ dc := by omega
  have hd3 : (m : Int) ≤ dc := by omega
  have hd4 : (c : Int) + 1 ≤ n := by omega
  have hd5 : (c : Int) + 1 ≤ kc := by omega
  have hd6 : (0 : Int) ≤ (c : Int) + 1 := by omega
  have hd7 : (c : Int) < n := by omega
  have hdn : ((c : Int) + 1).toNat = c + 1 := by omega
  have hw64 : IntKind.i64.wrap ((c : Int) + 1) = (c : Int) + 1 := IntWalk.i64_in _ (by omega)
  have hcp : ¬ kc = c + 1 := by omega
  have hdp : ¬ dc = c + 1 := by omega
  have HCN : Hid (c + 1 < n ∧ m = n + 1) := Lib.hid (by omega)
  clear hc h3
  obtain ⟨W3, hW3, hf3, hs3, b1, b2, b3⟩ := al3 w (.cells #[.int .i64 2, .slice pa 0 pc, .slice (some ⟨B, off, none⟩) n kc, .slice (some ⟨E, ef, none⟩) m dc, gv, .int .i64 q5, .int .u64 q6, .int .i64 q7, .int .i64 q8, .int .i64 q9, .int .i64 q10] 90) (.cells #[.int .i64 2, .slice none 0 0, .slice none 0 0, .slice none 0 0, .slice none 0 0, .int .i64 0, .int .u64 0, .int .i64 0, .int .i64 0, .int .i64 0, .int .i64 0] 90) (.cells #[.int .i64 2, .slice none 0 0, .slice none 0 0, .slice none 0 0, .slice none 0 0, .int .i64 0, .int .u64 0, .int .i64 0, .int .i64 0, .int .i64 0, .int .i64 0] 90)
  have HW3 := Lib.hid hW3
  have HS := Lib.hid hs3
  have HB := Lib.hid (And.intro b1 (And.intro b2 b3))
  have HF := Lib.hid hf3
  clear hW3 hs3 b1 b2 b3 hf3
  go_enter Tryz.func140, Tryz.ntmps140
  go_upto_region 1 with fail
  go_region
  rw [HW3.out]
  obtain ⟨r0, r1, r2, r3, r4, r5, r6, r7, r8, r9, r10⟩ := c11 HB.out.1
  go_wp2_with fail
  refine (HSZ.out _ HF.out.drew).mono ?_
  rintro e w2 ⟨rfl, hf2⟩
  have b1 := hf2.heap (show W3.drew.heap[w.heap.size]? = _ from HB.out.1) (by simp)
  have b2 := hf2.heap (show W3.drew.heap[w.heap.size + 1]? = _ from HB.out.2.1) (by simp)
  have b3 := hf2.heap (show W3.drew.heap[w.heap.size + 1 + 1]? = _ from HB.out.2.2) (by simp)
  have HF2 := Lib.hid (HF.out.drew.trans hf2)
  have HB2 := Lib.hid (And.intro b1 (And.intro b2 b3))
  clear r0 r1 r2 r3 r4 r5 r6 r7 r8 r9 r10
  have r0 := (c11 b1).1
  have r2 := (c11 b1).2.2.1
  have r3 := (c11 b1).2.2.2.1
  have s2 := (c11 b2).2.2.1
  have s3 := (c11 b2).2.2.2.1
  have y2 := (f11 b2).2.2.1
  have y3 := (f11 b2).2.2.2.1
  clear b1 b2 b3 hf2
  rw [show ((0 + n : Nat) : Int) = n by omega]
  go_upto_region 3 with fail
  rw [HC.out]
  go_upto_region 6 with fail
  go_region
  obtain ⟨W4, hW4, hf4, hs4, b2⟩ := st1 HB2.out.2.1 2 (.slice (some ⟨B, off, none⟩) c kc)
  obtain ⟨W5, hW5, hf5, hs5, b2⟩ := st1 b2 3 (.slice (some ⟨E, ef, none⟩) (c + 1) dc)
  rw [hW4, hW5]
  have h45 : Fr [w.heap.size + 1] w2 W5 := hf4.trans hf5
  have b1 := h45.heap HB2.out.1 (by rw [List.mem_singleton]; omega)
  have b3 := h45.heap HB2.out.2.2 (by rw [List.mem_singleton]; omega)
  have HB5 := Lib.hid (And.intro b1 (And.intro b2 b3))
  have HF5 := Lib.hid (HF2.out.nil.trans h45)
  clear r0 r2 r3 s2 s3 y2 y3 hW4 hW5 hf4 hf5 hs4 hs5 h45
  have r2 := (c11 b1).2.2.1
  have r3 := (c11 b1).2.2.2.1
  have s2 := (c11 b3).2.2.1
  have s3 := (c11 b3).2.2.2.1
  have y2 := (f11 b3).2.2.1
  have y3 := (f11 b3).2.2.2.1
  clear b1 b2 b3
  go_upto_region 7 with fail
  go_region
  obtain ⟨W6, hW6, hf6, hs6, b3⟩ := st1 HB5.out.2.2 2 (.slice (some ⟨B, off + (c + 1), none⟩) (n - (c + 1)) (kc - (c + 1)))
  obtain ⟨W7, hW7, hf7, hs7, b3⟩ := st1 b3 3 (.slice (some ⟨E, ef + (c + 1), none⟩) (m - (c + 1)) (dc - (c + 1)))
  rw [hW6, hW7]
  have h67 : Fr [w.heap.size + 1 + 1] W5 W7 := hf6.trans hf7
  have b1 := h67.heap HB5.out.1 (by rw [List.mem_singleton]; omega)
  have b2 := h67.heap HB5.out.2.1 (by rw [List.mem_singleton]; omega)
  have HF7 := Lib.hid ((HF5.out.mono (S' := [w.heap.size + 1, w.heap.size + 1 + 1]) (by simp)).trans (h67.mono (by simp)))
  clear r2 r3 s2 s3 y2 y3 hW6 hW7 hf6 hf7 hs6 hs7 h67
  have hcl : c < l.length := by rw [HN.out]; have := HCN.out.1; omega
  have hfn := HF7.out.drop (fun x hx => by simp at hx; omega)
  have hks := HP.out.keys.kept hfn.nil
  rw [HL.out, ← HN.out] at hks
  have key := Txts.at hks hcl
  have hB : B < w.heap.size := by
    have h := HP.out.keys
    rw [HL.out, ← HN.out] at h
    exact lt_of_cell (Txts.at h hcl)
  have hB1 : ¬ B = w.heap.size + 1 := by omega
  have hB2 : ¬ B = w.heap.size + 1 + 1 := by omega
  have r2 := (c11 b1).2.2.1
  obtain ⟨s0, s1, s2, s3, s4, s5, s6, s7, s8, s9, s10⟩ := c11 b2
  obtain ⟨t0, t1, t2, t3, t4, t5, t6, t7, t8, t9, t10⟩ := c11 b3
  obtain ⟨y0, y1, y2, y3, y4, y5, y6, y7, y8, y9, y10⟩ := f11 b2
  obtain ⟨z0, z1, z2, z3, z4, z5, z6, z7, z8, z9, z10⟩ := f11 b3
  have HB7 := Lib.hid (And.intro b2 b3)
  have HFN := Lib.hid hfn
  clear b1 b2 b3 hks hfn
  go_upto_region 8 with fail
  go_region
  go_wp2_with fail
  obtain ⟨Wa, hWa, fa, ba⟩ := st11 HB7.out.1 rfl (.int .i64 2) nilV (.slice (some ⟨B, off, none⟩) c kc) (.slice (some ⟨E, ef, none⟩) (c + 1) dc) nilV (.int .i64 0) (.int .u64 0) (.int .i64 0) (.int .i64 0) (.int .i64 0) (.int .i64 0)
  obtain ⟨Wb, hWb, fb, bb⟩ := st11 (fa.heap HB7.out.2 (by rw [List.mem_singleton]; omega)) rfl (.int .i64 2) nilV (.slice (some ⟨B, off + (c + 1), none⟩) (n - (c + 1)) (kc - (c + 1))) (.slice (some ⟨E, ef + (c + 1), none⟩) (m - (c + 1)) (dc - (c + 1))) nilV (.int .i64 0) (.int .u64 0) (.int .i64 0) (.int .i64 0) (.int .i64 0) (.int .i64 0)
  rw [hWa, hWb]
  have hsz : sizeD p / 2 = c := by
    unfold sizeD; rw [HL.out, h0, HN.out]
    have := HC.out
    show (0 + n) / 2 = c
    omega
  have hk1 : ¬ p.kind = 1 := by rw [hk]; decide
  have ea : halfA p = { branchPg (l.take c) (gs.take (c + 1)) with kind := 2 } := by unfold halfA; rw [if_neg hk1, hsz, HL.out, HG.out, hk]
  have eb : halfB p = { branchPg (l.drop (c + 1)) (gs.drop (c + 1)) with kind := 2 } := by unfold halfB; rw [if_neg hk1, hsz, HL.out, HG.out, hk]
  have ec : halfK p = l[c] := by unfold halfK; rw [if_neg hk1, hsz, HL.out, List.getD_eq_getElem?_getD, List.getElem?_eq_getElem hcl]; rfl
  have hff := (HF7.out.trans ((fa.mono (S' := [w.heap.size + 1, w.heap.size + 1 + 1]) (by simp)).trans (fb.mono (by simp)))).drop (fun x hx => by simp at hx; omega)
  have hps := HP.out.keys.kept hff.nil
  rw [HL.out, ← HN.out] at hps
  have hgs := HP.out.kids.kept hff.nil
  rw [HG.out] at hgs
  rw [← HM.out] at hgs
  have hcn := HCN.out
  refine bodyPost_ret (v := .tuple #[.agg #[.int .i64 2, nilV, .slice (some ⟨B, off, none⟩) c kc, .slice (some ⟨E, ef, none⟩) (c + 1) dc, nilV, .int .i64 0, .int .u64 0, .int .i64 0, .int .i64 0, .int .i64 0, .int .i64 0], .string l[c], .agg #[.int .i64 2, nilV, .slice (some ⟨B, off + (c + 1), none⟩) (n - (c + 1)) (kc - (c + 1)), .slice (some ⟨E, ef + (c + 1), none⟩) (m - (c + 1)) (dc - (c + 1)), nilV, .int .i64 0, .int .u64 0, .int .i64 0, .int .i64 0, .int .i64 0, .int .i64 0]])
    (halves_results rfl rfl rfl (fb.heap ba (by rw [List.mem_singleton]; omega)) bb) rfl ⟨_, _, by rw [ec], ?_, ?_, hff.drew.drew.drew⟩
  · rw [ea]
    refine ⟨_, _, _, _, rfl, Slc.nil _ _, Txts.take hps (Nat.le_of_lt hcl), ?_, Slc.nil _ _⟩
    have := Ints.take hgs (k := c + 1) (by rw [HM.out]; omega)
    exact this
  · rw [eb]
    refine ⟨_, _, _, _, rfl, Slc.nil _ _, ?_, ?_, Slc.nil _ _⟩
    · have := Txts.drop hps (k := c + 1) (by omega)
      rw [HN.out] at this
      exact this
    · have := Ints.drop hgs (k := c + 1) (by rw [HM.out]; omega)
      rw [HM.out] at this
      exact this
end Go.Proofs.YtgpohemcfgepeaaGreat
