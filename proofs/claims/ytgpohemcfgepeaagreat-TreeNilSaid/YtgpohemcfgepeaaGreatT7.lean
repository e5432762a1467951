/- a part. -/
import Derived.Test.YtgpohemcfgepeaaGreatT5
import Derived.Test.YtgpohemcfgepeaaGreatT6
import Derived.Test.YtgpohemcfgepeaaGreatGI
import Derived.Test.YtgpohemcfgepeaaGreatGA
import Derived.Test.YtgpohemcfgepeaaGreatT3
namespace Go.Proofs.YtgpohemcfgepeaaGreat
open Go.RowKit Go.MapKept
theorem joined_results {tmps : Array Value} {w : World} {g : Nat} {x0 x1 x2 x3 x4 x5 x6 x7 x8 x9 x10 : Value} (h4 : tmps.getD 6 undef = .pointer (some ⟨g, 0, none⟩))
    (hp : w.heap[g]? = some (.cells #[x0, x1, x2, x3, x4, x5, x6, x7, x8, x9, x10] 90 (0, 0))) :
    (results Tryz.f137 tmps).run Tryz.prog w = .ok (.agg #[x0, x1, x2, x3, x4, x5, x6, x7, x8, x9, x10]) w := by
  obtain ⟨q0, q1, q2, q3, q4, q5, q6, q7, q8, q9, q10⟩ := c11 hp
  rw [Array.getD_eq_getD_getElem?] at h4
  simp [results, Tryz.results137, go_sem, h4, q0, q1, q2, q3, q4, q5, q6, q7, q8, q9, q10]
theorem fr_al {S : List Nat} {a w : World} {o : Obj} (h : Fr S a w) : Fr S a (w.alloc o) := h.alloc o
theorem fr_dr {S : List Nat} {a w : World} (h : Fr S a w) : Fr S a w.drew := h.drew
theorem fr_refl {S : List Nat} {a : World} : Fr S a a := Fr.refl _ _
theorem fr_sc {S : List Nat} {a w : World} {b i : Nat} {v : Value} (hp : b ∈ S) (h : Fr S a w) : Fr S a (w.setCell ⟨b, i, none⟩ v) := h.trans ((Fr.setCell w ⟨b, i, none⟩ v).mono (fun x hx _ => by simp at hx; subst hx; exact hp))
def PageNew (w : World) (p : PageD) (e : Ending) (w' : World) : Prop := ∃ pv kv dv gv, e = .returned (.agg (pageCells p pv kv dv gv).toArray) ∧ (∀ S : List Nat, (∀ x, x ∈ S → x < w.heap.size) → PageIn S w' p pv kv dv gv) ∧ Fr [] w w'
set_option maxRecDepth 100000 in
set_option maxHeartbeats 2000000 in
theorem joined_leaf {S S' : List Nat} {a b : PageD} {pv kv dv gv pv' kv' dv' gv' : Value} (key : ByteArray) (w : World) (ha : PageIn S w a pv kv dv gv) (hb : PageIn S' w b pv' kv' dv' gv') (hk : a.kind = 1) (h1 : a.pairs.length ≤ 10000) (h2 : b.pairs.length ≤ 10000) :
    Calls Tryz.prog 137 #[.agg (pageCells a pv kv dv gv).toArray, .string key, .agg (pageCells b pv' kv' dv' gv').toArray] w (PageNew w (joinD a key b)) := by
  obtain ⟨xa, xc, rfl, _⟩ := Slc.form ha.pairs
  obtain ⟨ya, yc, rfl, _⟩ := Slc.form hb.pairs
  have hj : joinD a key b = leafPg (a.pairs ++ b.pairs) := by unfold joinD; rw [if_pos hk]
  rw [hj]
  clear hj
  have hpa := ha.pairs.mono (S' := []) (by simp)
  have hpb := hb.pairs.mono (S' := []) (by simp)
  unfold pageCells
  rw [hk]
  clear ha hb hk
  obtain ⟨l, hl⟩ : ∃ l, a.pairs = l := ⟨_, rfl⟩
  obtain ⟨l', hl'⟩ : ∃ l', b.pairs = l' := ⟨_, rfl⟩
  rw [hl] at hpa h1 ⊢
  rw [hl'] at hpb h2 ⊢
  clear hl hl'
  obtain ⟨n, hn⟩ : ∃ n, l.length = n := ⟨_, rfl⟩
  obtain ⟨n', hn'⟩ : ∃ n', l'.length = n' := ⟨_, rfl⟩
  rw [hn] at hpa ⊢
  rw [hn'] at hpb ⊢
  have HL : Hid ([l, l'].flatten.length ≤ 1048576 ∧ [l, l'].flatten = l ++ l') := Lib.hid (by simp; omega)
  clear hn hn' h1 h2
  generalize a.next = q5 at *
  generalize a.epoch = q6 at *
  generalize a.root = q7 at *
  generalize a.depth = q8 at *
  generalize a.count = q9 at *
  generalize a.high = q10 at *
  generalize b.kind = u0 at *
  generalize b.next = u5 at *
  generalize b.epoch = u6 at *
  generalize b.root = u7 at *
  generalize b.depth = u8 at *
  generalize b.count = u9 at *
  generalize b.high = u10 at *
  obtain ⟨W3, hW3, hf3, hs3, b1, b2, b3⟩ := al3 w (.cells #[.int .i64 1, .slice xa n xc, kv, dv, gv, .int .i64 q5, .int .u64 q6, .int .i64 q7, .int .i64 q8, .int .i64 q9, .int .i64 q10] 90) (.cells #[.int .i64 u0, .slice ya n' yc, kv', dv', gv', .int .i64 u5, .int .u64 u6, .int .i64 u7, .int .i64 u8, .int .i64 u9, .int .i64 u10] 90) (.cells #[.int .i64 0, .slice none 0 0, .slice none 0 0, .slice none 0 0, .slice none 0 0, .int .i64 0, .int .u64 0, .int .i64 0, .int .i64 0, .int .i64 0, .int .i64 0] 90)
  obtain ⟨W4, hW4, hf4, _, b4⟩ := al1 W3 (.cells #[.slice xa n xc, .slice ya n' yc] 27)
  have hrow : PRows [] W4 (.slice (some ⟨W3.heap.size, 0, none⟩) 2 2) [l, l'] := by rw [← hW4]; exact rows2P _ (hpa.kept hf3) (hpb.kept hf3)
  have HC := Lib.hid (concatP_k W4 hrow HL.out.1 (by simp))
  obtain ⟨r, hr⟩ : ∃ r, [l, l'].flatten = r := ⟨_, rfl⟩
  rw [hr] at HC HL
  clear hr
  have c0 := blk_cell b1 0
  have c1 := blk_cell b1 1
  have d1 := blk_cell b2 1
  simp only [List.getElem?_toArray, List.getElem?_cons_zero, List.getElem?_cons_succ] at c0 c1 d1
  have HF := Lib.hid (hf3.trans hf4)
  have HB := Lib.hid (hf4.heap b3 (by simp))
  have HS := Lib.hid hs3
  rw [hs3] at HC hrow
  clear hrow hpa hpb hf3 hf4 b1 b2 b3 b4
  go_enter Tryz.func137, Tryz.ntmps137
  go_upto_region 1 with fail
  clear hW3
  go_wp2_with fail
  with_reducible refine HC.out.mono ?_
  rintro e w5 ⟨v', rfl, hn, hf⟩
  obtain ⟨va, vc, rfl, _⟩ := Slc.form (hn [] (by simp))
  have HN := Lib.hid hn
  have HF5 := Lib.hid (HF.out.trans hf)
  have hb := hf.heap HB.out (by simp)
  have HB5 := Lib.hid hb
  have HS5 : Hid (w.heap.size + 3 < W4.heap.size) := Lib.hid (by rw [← hW4, heap_sz, HS.out]; omega)
  obtain ⟨t0, t1, t2, t3, t4, t5, t6, t7, t8, t9, t10⟩ := c11 hb
  obtain ⟨z0, z1, z2, z3, z4, z5, z6, z7, z8, z9, z10⟩ := f11 hb
  clear hn hf hb hW4 HC c0 c1 d1
  go_wp2_with fail
  obtain ⟨Wa, hWa, fa, ba⟩ := st11 HB5.out rfl (.int .i64 1) (.slice va r.length vc) nilV nilV nilV (.int .i64 0) (.int .u64 0) (.int .i64 0) (.int .i64 0) (.int .i64 0) (.int .i64 0)
  rw [hWa]
  refine bodyPost_ret (v := .agg #[.int .i64 1, .slice va r.length vc, nilV, nilV, nilV, .int .i64 0, .int .u64 0, .int .i64 0, .int .i64 0, .int .i64 0, .int .i64 0]) (joined_results rfl ba) rfl ⟨_, _, _, _, rfl, fun S hS => ⟨?_, Slc.nil _ _, Slc.nil _ _, Slc.nil _ _⟩, (HF5.out.nil.trans fa).drop (fun x hx => by simp at hx; omega)⟩
  have hp := HN.out ((w.heap.size + 1 + 1) :: S) (fun x hx => by
    rcases List.mem_cons.1 hx with rfl | hx
    · have := HS5.out; omega
    · have := hS x hx; have := HS5.out; omega)
  rw [HL.out.2] at hp ⊢
  exact (hp.kept (fa.mono (by simp))).mono (fun x hx => List.mem_cons_of_mem _ hx)
set_option maxRecDepth 100000 in
set_option maxHeartbeats 4000000 in
theorem joined_branch {S S' : List Nat} {a b : PageD} {pv kv dv gv pv' kv' dv' gv' : Value} (key : ByteArray) (w : World) (ha : PageIn S w a pv kv dv gv) (hb : PageIn S' w b pv' kv' dv' gv') (hk : a.kind ≠ 1) (h1 : a.keys.length ≤ 10000) (h2 : b.keys.length ≤ 10000) (h3 : a.kids.length ≤ 10000) (h4 : b.kids.length ≤ 10000) :
    Calls Tryz.prog 137 #[.agg (pageCells a pv kv dv gv).toArray, .string key, .agg (pageCells b pv' kv' dv' gv').toArray] w (PageNew w (joinD a key b)) := by
  obtain ⟨xa, xc, rfl, _⟩ := Slc.form ha.keys
  obtain ⟨ya, yc, rfl, _⟩ := Slc.form hb.keys
  obtain ⟨za, zc, rfl, _⟩ := Slc.form ha.kids
  obtain ⟨ta, tc, rfl, _⟩ := Slc.form hb.kids
  have hj : joinD a key b = branchPg (a.keys ++ [key] ++ b.keys) (a.kids ++ b.kids) := by unfold joinD; rw [if_neg hk]
  rw [hj]
  clear hj
  have hpa := ha.keys.mono (S' := []) (by simp)
  have hpb := hb.keys.mono (S' := []) (by simp)
  have hqa := ha.kids.mono (S' := []) (by simp)
  have hqb := hb.kids.mono (S' := []) (by simp)
  have bk : (a.kind == 1) = false := by simpa using hk
  unfold pageCells
  clear ha hb hk
  generalize a.keys = l at *
  generalize b.keys = l' at *
  generalize a.kids = m at *
  generalize b.kids = m' at *
  have HLT : Hid (∃ r, [l, [key], l'].flatten = r ∧ r = l ++ [key] ++ l' ∧ r.length ≤ 1048576) := Lib.hid ⟨_, rfl, by simp, by simp; omega⟩
  have HLI : Hid (∃ r, [m, m'].flatten = r ∧ r = m ++ m' ∧ r.length ≤ 1048576) := Lib.hid ⟨_, rfl, by simp, by simp; omega⟩
  clear h1 h2 h3 h4
  generalize l.length = n1 at *
  generalize l'.length = n2 at *
  generalize m.length = n3 at *
  generalize m'.length = n4 at *
  generalize a.kind = q0 at *
  generalize a.next = q5 at *
  generalize a.epoch = q6 at *
  generalize a.root = q7 at *
  generalize a.depth = q8 at *
  generalize a.count = q9 at *
  generalize a.high = q10 at *
  generalize b.kind = u0 at *
  generalize b.next = u5 at *
  generalize b.epoch = u6 at *
  generalize b.root = u7 at *
  generalize b.depth = u8 at *
  generalize b.count = u9 at *
  generalize b.high = u10 at *
  obtain ⟨W3, hW3, hf3, hs3, b1, b2, b3⟩ := al3 w (.cells #[.int .i64 q0, pv, .slice xa n1 xc, .slice za n3 zc, gv, .int .i64 q5, .int .u64 q6, .int .i64 q7, .int .i64 q8, .int .i64 q9, .int .i64 q10] 90) (.cells #[.int .i64 u0, pv', .slice ya n2 yc, .slice ta n4 tc, gv', .int .i64 u5, .int .u64 u6, .int .i64 u7, .int .i64 u8, .int .i64 u9, .int .i64 u10] 90) (.cells #[.int .i64 0, .slice none 0 0, .slice none 0 0, .slice none 0 0, .slice none 0 0, .int .i64 0, .int .u64 0, .int .i64 0, .int .i64 0, .int .i64 0, .int .i64 0] 90)
  have c0 := (c11 b1).1
  have HS : Hid (∀ w', Fr [w.heap.size + 1 + 1] W3 w' → Fr [w.heap.size + 1 + 1] W3 w' ∧ w'.cell? ⟨w.heap.size, 2, none⟩ = some (.slice xa n1 xc) ∧ w'.cell? ⟨w.heap.size, 3, none⟩ = some (.slice za n3 zc) ∧ w'.cell? ⟨w.heap.size + 1, 2, none⟩ = some (.slice ya n2 yc) ∧ w'.cell? ⟨w.heap.size + 1, 3, none⟩ = some (.slice ta n4 tc)) :=
    Lib.hid fun w' hf => ⟨hf, hf.cellSome (c11 b1).2.2.1 (by rw [List.mem_singleton]; show ¬ w.heap.size = _; omega), hf.cellSome (c11 b1).2.2.2.1 (by rw [List.mem_singleton]; show ¬ w.heap.size = _; omega), hf.cellSome (c11 b2).2.2.1 (by rw [List.mem_singleton]; show ¬ w.heap.size + 1 = _; omega), hf.cellSome (c11 b2).2.2.2.1 (by rw [List.mem_singleton]; show ¬ w.heap.size + 1 = _; omega)⟩
  have HD : Hid (Fr [w.heap.size + 1 + 1] W3 W3.drew) := Lib.hid (Fr.refl _ _).drew
  have HF := Lib.hid hf3
  have HB := Lib.hid b3
  have HZ := Lib.hid hs3
  have hm : ∀ x, x ∈ [w.heap.size + 1 + 1] → x ∈ ([] : List Nat) ∨ w.heap.size ≤ x := fun x hx => .inr (by rw [List.mem_singleton] at hx; omega)
  have HPA := Lib.hid fun (w' : World) (hf : Fr [w.heap.size + 1 + 1] W3 w') => And.intro (Slc.mono (S' := []) ((Slc.more hpa hm).kept (hf3.nil.trans hf)) (by simp)) (And.intro (Slc.mono (S' := []) ((Slc.more hpb hm).kept (hf3.nil.trans hf)) (by simp)) (And.intro (Slc.mono (S' := []) ((Slc.more hqa hm).kept (hf3.nil.trans hf)) (by simp)) (Slc.mono (S' := []) ((Slc.more hqb hm).kept (hf3.nil.trans hf)) (by simp))))
  clear hm
  clear hpa hpb hqa hqb hf3 b1 b2 b3 hs3
  obtain ⟨rT, hrT⟩ := HLT.out
  obtain ⟨rI, hrI⟩ := HLI.out
  have HRT := Lib.hid hrT
  have HRI := Lib.hid hrI
  clear HLT HLI hrT hrI
  go_enter Tryz.func137, Tryz.ntmps137
  go_upto_region 1 with fail
  clear hW3
  go_upto_region 3 with fail
  go_region_held3 (fun w' => Fr [w.heap.size + 1 + 1] W3 w' ∧ w'.cell? ⟨w.heap.size, 2, none⟩ = some (.slice xa n1 xc) ∧ w'.cell? ⟨w.heap.size, 3, none⟩ = some (.slice za n3 zc) ∧ w'.cell? ⟨w.heap.size + 1, 2, none⟩ = some (.slice ya n2 yc) ∧ w'.cell? ⟨w.heap.size + 1, 3, none⟩ = some (.slice ta n4 tc))
    (first
    | (refine HS.out _ ?_; simp (maxDischargeDepth := 40) only [fr_dr, fr_al, fr_refl])
    | (refine HS.out _ ?_; simp (maxDischargeDepth := 40) only [fr_al, fr_sc, H3.out, List.mem_singleton]))
    (first
    | (go_at_call 138
       refine (concatT_k (S := []) (ls := [l, [key], l']) _ (rowsT3 (by first | exact blk_new _ _ | exact bk2a _ _ _ | exact bk2b _ _ _ | exact bk3a _ _ _ _ | exact bk3b _ _ _ _ | exact bk3c _ _ _ _ | (refine HIF.out.heap ?_ (by simp); first | exact blk_new _ _ | exact bk2a _ _ _ | exact bk2b _ _ _ | exact bk3a _ _ _ _ | exact bk3b _ _ _ _ | exact bk3c _ _ _ _) | (refine (Fr.alloc1 _ _).heap (HIF.out.heap ?_ (by simp)) (by simp); first | exact blk_new _ _ | exact bk2a _ _ _ | exact bk2b _ _ _ | exact bk3a _ _ _ _ | exact bk3b _ _ _ _ | exact bk3c _ _ _ _) | (refine ((Fr.alloc1 _ _).trans (Fr.alloc1 _ _)).heap (HIF.out.heap ?_ (by simp)) (by simp); first | exact blk_new _ _ | exact bk2a _ _ _ | exact bk2b _ _ _ | exact bk3a _ _ _ _ | exact bk3b _ _ _ _ | exact bk3c _ _ _ _)) (HPA.out _ (And.left (by assumption))).1 (txt1 (by first | exact blk_new _ _ | exact bk2a _ _ _ | exact bk2b _ _ _ | exact bk3a _ _ _ _ | exact bk3b _ _ _ _ | exact bk3c _ _ _ _ | (refine HIF.out.heap ?_ (by simp); first | exact blk_new _ _ | exact bk2a _ _ _ | exact bk2b _ _ _ | exact bk3a _ _ _ _ | exact bk3b _ _ _ _ | exact bk3c _ _ _ _) | (refine (Fr.alloc1 _ _).heap (HIF.out.heap ?_ (by simp)) (by simp); first | exact blk_new _ _ | exact bk2a _ _ _ | exact bk2b _ _ _ | exact bk3a _ _ _ _ | exact bk3b _ _ _ _ | exact bk3c _ _ _ _) | (refine ((Fr.alloc1 _ _).trans (Fr.alloc1 _ _)).heap (HIF.out.heap ?_ (by simp)) (by simp); first | exact blk_new _ _ | exact bk2a _ _ _ | exact bk2b _ _ _ | exact bk3a _ _ _ _ | exact bk3b _ _ _ _ | exact bk3c _ _ _ _))) (HPA.out _ (And.left (by assumption))).2.1) (by rw [HRT.out.1]; exact HRT.out.2.2) (by simp)).mono ?_
       rintro e uT ⟨vT, rfl, hnT, hTF⟩
       rw [HRT.out.1] at hnT
       obtain ⟨tA, tC, rfl, _⟩ := Slc.form (hnT [] (by simp))
       have h3 : Hid (Fr [] W3 uT) := by
         refine Lib.hid ?_
         first
         | (refine Fr.trans ?_ hTF; (first | exact Fr.refl _ _ | exact (Fr.refl _ _).drew | exact Fr.alloc1 _ _ | exact (Fr.alloc1 _ _).drew | exact (Fr.alloc1 _ _).trans (Fr.alloc1 _ _) | exact ((Fr.alloc1 _ _).trans (Fr.alloc1 _ _)).drew | exact ((Fr.alloc1 _ _).trans (Fr.alloc1 _ _)).trans (Fr.alloc1 _ _) | exact (((Fr.alloc1 _ _).trans (Fr.alloc1 _ _)).trans (Fr.alloc1 _ _)).drew))
         | (refine HI3.out.trans (Fr.trans ?_ hTF); (first | exact Fr.refl _ _ | exact (Fr.refl _ _).drew | exact Fr.alloc1 _ _ | exact (Fr.alloc1 _ _).drew | exact (Fr.alloc1 _ _).trans (Fr.alloc1 _ _) | exact ((Fr.alloc1 _ _).trans (Fr.alloc1 _ _)).drew | exact ((Fr.alloc1 _ _).trans (Fr.alloc1 _ _)).trans (Fr.alloc1 _ _) | exact (((Fr.alloc1 _ _).trans (Fr.alloc1 _ _)).trans (Fr.alloc1 _ _)).drew))
       have hb := h3.out.heap HB.out (by simp)
       have HBT := Lib.hid hb
       have HC := Lib.hid fun x0 x1 x2 x3 x4 x5 x6 x7 x8 x9 x10 => (set11a hb rfl x0 x1 x2 x3 x4 x5 x6 x7 x8 x9 x10).2
       have HTF := Lib.hid hTF
       have HT3 := h3
       have H3 : Hid (Fr [w.heap.size + 1 + 1] W3 uT) := Lib.hid h3.out.nil
       obtain ⟨t0, t1, t2, t3, t4, t5, t6, t7, t8, t9, t10⟩ := c11 hb
       obtain ⟨z0, z1, z2, z3, z4, z5, z6, z7, z8, z9, z10⟩ := f11 hb
       have HNT := Lib.hid fun (S : List Nat) (hS : ∀ x, x ∈ S → x < W3.heap.size) => hnT S (fun x hx => Nat.lt_of_lt_of_le (hS x hx) (Fr.size (And.left (by assumption))))
       try
         have hOO : Fr [] uI uT := by (refine Fr.trans ?_ hTF; (first | exact Fr.refl _ _ | exact (Fr.refl _ _).drew | exact Fr.alloc1 _ _ | exact (Fr.alloc1 _ _).drew | exact (Fr.alloc1 _ _).trans (Fr.alloc1 _ _) | exact ((Fr.alloc1 _ _).trans (Fr.alloc1 _ _)).drew | exact ((Fr.alloc1 _ _).trans (Fr.alloc1 _ _)).trans (Fr.alloc1 _ _) | exact (((Fr.alloc1 _ _).trans (Fr.alloc1 _ _)).trans (Fr.alloc1 _ _)).drew))
         have HNI2 : Hid (∀ S : List Nat, (∀ x, x ∈ S → x < W3.heap.size) → Ints S uT (.slice iA rI.length iC) rI) := Lib.hid fun S hS => (HNI.out S hS).kept (Fr.nil hOO)
         clear hOO
       clear hnT hTF hb h3)
    | (go_at_call 85
       refine (concat_k (S := []) (ls := [m, m']) _ (rowsI2 (by first | exact blk_new _ _ | exact bk2a _ _ _ | exact bk2b _ _ _ | exact bk3a _ _ _ _ | exact bk3b _ _ _ _ | exact bk3c _ _ _ _ | (refine HTF.out.heap ?_ (by simp); first | exact blk_new _ _ | exact bk2a _ _ _ | exact bk2b _ _ _ | exact bk3a _ _ _ _ | exact bk3b _ _ _ _ | exact bk3c _ _ _ _) | (refine (Fr.alloc1 _ _).heap (HTF.out.heap ?_ (by simp)) (by simp); first | exact blk_new _ _ | exact bk2a _ _ _ | exact bk2b _ _ _ | exact bk3a _ _ _ _ | exact bk3b _ _ _ _ | exact bk3c _ _ _ _) | (refine ((Fr.alloc1 _ _).trans (Fr.alloc1 _ _)).heap (HTF.out.heap ?_ (by simp)) (by simp); first | exact blk_new _ _ | exact bk2a _ _ _ | exact bk2b _ _ _ | exact bk3a _ _ _ _ | exact bk3b _ _ _ _ | exact bk3c _ _ _ _)) (HPA.out _ (And.left (by assumption))).2.2.1 (HPA.out _ (And.left (by assumption))).2.2.2) (by rw [HRI.out.1]; exact HRI.out.2.2) (by simp)).mono ?_
       rintro e uI ⟨vI, rfl, hnI, hIF⟩
       rw [HRI.out.1] at hnI
       obtain ⟨iA, iC, rfl, _⟩ := Slc.form (hnI [] (by simp))
       have h3 : Hid (Fr [] W3 uI) := by
         refine Lib.hid ?_
         first
         | (refine Fr.trans ?_ hIF; (first | exact Fr.refl _ _ | exact (Fr.refl _ _).drew | exact Fr.alloc1 _ _ | exact (Fr.alloc1 _ _).drew | exact (Fr.alloc1 _ _).trans (Fr.alloc1 _ _) | exact ((Fr.alloc1 _ _).trans (Fr.alloc1 _ _)).drew | exact ((Fr.alloc1 _ _).trans (Fr.alloc1 _ _)).trans (Fr.alloc1 _ _) | exact (((Fr.alloc1 _ _).trans (Fr.alloc1 _ _)).trans (Fr.alloc1 _ _)).drew))
         | (refine HT3.out.trans (Fr.trans ?_ hIF); (first | exact Fr.refl _ _ | exact (Fr.refl _ _).drew | exact Fr.alloc1 _ _ | exact (Fr.alloc1 _ _).drew | exact (Fr.alloc1 _ _).trans (Fr.alloc1 _ _) | exact ((Fr.alloc1 _ _).trans (Fr.alloc1 _ _)).drew | exact ((Fr.alloc1 _ _).trans (Fr.alloc1 _ _)).trans (Fr.alloc1 _ _) | exact (((Fr.alloc1 _ _).trans (Fr.alloc1 _ _)).trans (Fr.alloc1 _ _)).drew))
       have hb := h3.out.heap HB.out (by simp)
       have HBI := Lib.hid hb
       have HC := Lib.hid fun x0 x1 x2 x3 x4 x5 x6 x7 x8 x9 x10 => (set11a hb rfl x0 x1 x2 x3 x4 x5 x6 x7 x8 x9 x10).2
       have HIF := Lib.hid hIF
       have HI3 := h3
       have H3 : Hid (Fr [w.heap.size + 1 + 1] W3 uI) := Lib.hid h3.out.nil
       obtain ⟨t0, t1, t2, t3, t4, t5, t6, t7, t8, t9, t10⟩ := c11 hb
       obtain ⟨z0, z1, z2, z3, z4, z5, z6, z7, z8, z9, z10⟩ := f11 hb
       have HNI := Lib.hid fun (S : List Nat) (hS : ∀ x, x ∈ S → x < W3.heap.size) => hnI S (fun x hx => Nat.lt_of_lt_of_le (hS x hx) (Fr.size (And.left (by assumption))))
       try
         have hOO : Fr [] uT uI := by (refine Fr.trans ?_ hIF; (first | exact Fr.refl _ _ | exact (Fr.refl _ _).drew | exact Fr.alloc1 _ _ | exact (Fr.alloc1 _ _).drew | exact (Fr.alloc1 _ _).trans (Fr.alloc1 _ _) | exact ((Fr.alloc1 _ _).trans (Fr.alloc1 _ _)).drew | exact ((Fr.alloc1 _ _).trans (Fr.alloc1 _ _)).trans (Fr.alloc1 _ _) | exact (((Fr.alloc1 _ _).trans (Fr.alloc1 _ _)).trans (Fr.alloc1 _ _)).drew))
         have HNT2 : Hid (∀ S : List Nat, (∀ x, x ∈ S → x < W3.heap.size) → Txts S uI (.slice tA rT.length tC) rT) := Lib.hid fun S hS => (HNT.out S hS).kept (Fr.nil hOO)
         clear hOO
       clear hnI hIF hb h3))
  all_goals
    go_wp2_with fail
    first
    | (obtain ⟨Wa, hWa, fa, ba⟩ := st11 HBT.out rfl (.int .i64 2) nilV (.slice tA rT.length tC) (.slice iA rI.length iC) nilV (.int .i64 0) (.int .u64 0) (.int .i64 0) (.int .i64 0) (.int .i64 0) (.int .i64 0)
       rw [hWa]
       have hS : ∀ S : List Nat, (∀ x, x ∈ S → x < w.heap.size) → ∀ x, x ∈ (w.heap.size + 1 + 1) :: S → x < W3.heap.size := fun S hS x hx => by
         have := HZ.out
         rcases List.mem_cons.1 hx with rfl | hx
         · omega
         · have := hS x hx; omega
       refine bodyPost_ret (v := .agg #[.int .i64 2, nilV, .slice tA rT.length tC, .slice iA rI.length iC, nilV, .int .i64 0, .int .u64 0, .int .i64 0, .int .i64 0, .int .i64 0, .int .i64 0]) (joined_results rfl ba) rfl ⟨_, _, _, _, rfl, fun S h => ⟨Slc.nil _ _, ?_, ?_, Slc.nil _ _⟩, ((HF.out.nil.trans HT3.out.nil).trans fa).drop (fun x hx => by simp at hx; omega)⟩
       · rw [← HRT.out.2.1]; exact ((HNT.out _ (hS S h)).kept (fa.mono (by simp))).mono (fun x hx => List.mem_cons_of_mem _ hx)
       · rw [← HRI.out.2.1]; exact ((HNI2.out _ (hS S h)).kept (fa.mono (by simp))).mono (fun x hx => List.mem_cons_of_mem _ hx))
    | (obtain ⟨Wa, hWa, fa, ba⟩ := st11 HBI.out rfl (.int .i64 2) nilV (.slice tA rT.length tC) (.slice iA rI.length iC) nilV (.int .i64 0) (.int .u64 0) (.int .i64 0) (.int .i64 0) (.int .i64 0) (.int .i64 0)
       rw [hWa]
       have hS : ∀ S : List Nat, (∀ x, x ∈ S → x < w.heap.size) → ∀ x, x ∈ (w.heap.size + 1 + 1) :: S → x < W3.heap.size := fun S hS x hx => by
         have := HZ.out
         rcases List.mem_cons.1 hx with rfl | hx
         · omega
         · have := hS x hx; omega
       refine bodyPost_ret (v := .agg #[.int .i64 2, nilV, .slice tA rT.length tC, .slice iA rI.length iC, nilV, .int .i64 0, .int .u64 0, .int .i64 0, .int .i64 0, .int .i64 0, .int .i64 0]) (joined_results rfl ba) rfl ⟨_, _, _, _, rfl, fun S h => ⟨Slc.nil _ _, ?_, ?_, Slc.nil _ _⟩, ((HF.out.nil.trans HI3.out.nil).trans fa).drop (fun x hx => by simp at hx; omega)⟩
       · rw [← HRT.out.2.1]; exact ((HNT2.out _ (hS S h)).kept (fa.mono (by simp))).mono (fun x hx => List.mem_cons_of_mem _ hx)
       · rw [← HRI.out.2.1]; exact ((HNI.out _ (hS S h)).kept (fa.mono (by simp))).mono (fun x hx => List.mem_cons_of_mem _ hx))
end Go.Proofs.YtgpohemcfgepeaaGreat

namespace Go.Proofs.YtgpohemcfgepeaaGreat
open Go.RowKit Go.MapKept
structure PgF (p : PageD) : Prop where
  small : p.pairs.length ≤ 1000 ∧ p.keys.length ≤ 1000 ∧ p.kids.length ≤ 1001 ∧ p.pages.length ≤ 1000
  ep : 0 ≤ p.epoch ∧ p.epoch < 18446744073709551616
  form : (p.kind = 1 ∧ p.keys = []) ∨ (p.kind = 2 ∧ p.pairs = [] ∧ p.kids.length = p.keys.length + 1)
theorem PgF.sm {p : PageD} (h : PgF p) : p.small := by
  have := h.small
  exact ⟨by omega, by omega, by omega, by omega⟩
theorem leafPg_F {l : List PairD} (h : l.length ≤ 1000) : PgF (leafPg l) := ⟨⟨h, by simp [leafPg, pgLeaf], by simp [leafPg, pgLeaf], by simp [leafPg, pgLeaf]⟩, by simp [leafPg, pgLeaf], .inl ⟨rfl, rfl⟩⟩
theorem branchPg_F {ks : List ByteArray} {gs : List Int} (h : ks.length ≤ 1000) (h2 : gs.length = ks.length + 1) : PgF (branchPg ks gs) := ⟨⟨by simp [branchPg, pgBranch], h, by show gs.length ≤ _; omega, by simp [branchPg, pgBranch]⟩, by simp [branchPg, pgBranch], .inr ⟨rfl, rfl, h2⟩⟩
theorem halves_F {p : PageD} (h : PgF p) : PgF (halfA p) ∧ (PgF (halfB p) ∨ (p.kind = 2 ∧ p.keys.length ≤ sizeD p / 2)) := by
  have hs := h.small
  rcases h.form with ⟨h1, h2⟩ | ⟨h1, h2, h3⟩
  · have hk := h1
    have ea : halfA p = leafPg (p.pairs.take (sizeD p / 2)) := by unfold halfA; rw [if_pos hk]
    have eb : halfB p = leafPg (p.pairs.drop (sizeD p / 2)) := by unfold halfB; rw [if_pos hk]
    rw [ea, eb]
    exact ⟨leafPg_F (by rw [List.length_take]; omega), .inl (leafPg_F (by rw [List.length_drop]; omega))⟩
  · have hk : ¬ p.kind = 1 := by omega
    have ea : halfA p = branchPg (p.keys.take (sizeD p / 2)) (p.kids.take (sizeD p / 2 + 1)) := by unfold halfA; rw [if_neg hk, h1]; rfl
    have eb : halfB p = branchPg (p.keys.drop (sizeD p / 2 + 1)) (p.kids.drop (sizeD p / 2 + 1)) := by unfold halfB; rw [if_neg hk, h1]; rfl
    have es : sizeD p = p.keys.length := by unfold sizeD; rw [h2]; simp
    rw [ea, eb]
    refine ⟨branchPg_F (by rw [List.length_take]; omega) (by rw [List.length_take, List.length_take]; omega), ?_⟩
    by_cases hlt : sizeD p / 2 < p.keys.length
    · exact .inl (branchPg_F (by rw [List.length_drop]; omega) (by rw [List.length_drop, List.length_drop]; omega))
    · exact .inr ⟨h1, by omega⟩
theorem halves_k {S : List Nat} {p : PageD} {v : Value} (w : World) (hp : PageAt S w v p) (hf : PgF p) (hb : mostD p < sizeD p) : Calls Tryz.prog 140 #[v] w (HalfP S w p) := by
  obtain ⟨pv, kv, dv, gv, rfl, hp⟩ := hp
  have hs := hf.small
  rcases hf.form with ⟨h1, h2⟩ | ⟨h1, h2, h3⟩
  · have : sizeD p = p.pairs.length := by unfold sizeD; rw [h2]; rfl
    have hm : mostD p = 6 := by unfold mostD; rw [if_pos h1]
    exact halves_leaf w hp h1 h2 (by omega) (by omega)
  · have : sizeD p = p.keys.length := by unfold sizeD; rw [h2]; simp
    have hm : mostD p = 12 := by unfold mostD; rw [if_neg (by omega)]
    exact halves_branch w hp h1 h2 (by omega) (by omega) h3
theorem joined_k {S S' : List Nat} {a b : PageD} {v v' : Value} (key : ByteArray) (w : World) (ha : PageAt S w v a) (hb : PageAt S' w v' b) (fa : PgF a) (fb : PgF b) : Calls Tryz.prog 137 #[v, .string key, v'] w (PageNew w (joinD a key b)) := by
  obtain ⟨pv, kv, dv, gv, rfl, ha⟩ := ha
  obtain ⟨pv', kv', dv', gv', rfl, hb⟩ := hb
  have h1 := fa.small
  have h2 := fb.small
  by_cases hk : a.kind = 1
  · exact joined_leaf key w ha hb hk (by omega) (by omega)
  · exact joined_branch key w ha hb hk (by omega) (by omega) (by omega) (by omega)
theorem ints1 {S : List Nat} {w : World} (n : Int) (U : TypeId) (h : w.heap.size ∉ S) : Ints S (w.alloc (.cells #[.int .i64 n] U)) (.slice (some ⟨w.heap.size, 0, none⟩) 1 1) [n] := Slc.ofBlock (blk_new w _) h 1 1 (Nat.le_refl _)
theorem StoAt.newN {w : World} {sb b ml mc fm : Nat} {T : StD} (h : StoAt w sb b ml mc fm T) {x : Nat} (hx : w.heap.size ≤ x) : x ∉ [sb, fm, b, ml, mc] := by
  have := h.lt
  simp only [List.mem_cons, List.not_mem_nil, or_false, not_or]
  omega
def LayP (w : World) (sb b ml mc fm : Nat) (R : List Int × List ByteArray × Int × StD) (e : Ending) (w' : World) : Prop :=
  ∃ kv sv fm', e = .returned (.tuple #[kv, sv, .int .i64 R.2.2.1]) ∧ StoAt w' sb b ml mc fm' R.2.2.2 ∧ Fr [sb, fm, b, ml, mc] w w' ∧ ((fm' = fm ∨ w.heap.size ≤ fm') ∧ ApK w sb w') ∧ ∀ S : List Nat, (∀ x, x ∈ S → x < w.heap.size ∨ x ∈ [sb, fm', b, ml, mc]) → Ints S w' kv R.1 ∧ Txts S w' sv R.2.1
set_option maxRecDepth 100000 in
set_option maxHeartbeats 4000000 in
theorem tlay_k {tb sb b ml mc fm : Nat} {T : StD} {p : PageD} {v : Value} (old : Int) (w : World) (hc0 : w.cell? ⟨tb, 0, none⟩ = some (.pointer (some ⟨sb, 0, none⟩))) (hne : tb ∉ [sb, fm, b, ml, mc]) (h : StoAt w sb b ml mc fm T) (hg : T.good) (hp : PageAt [sb, fm, b, ml, mc] w v p) (hf : PgF p) :
    Calls Tryz.prog 103 #[.pointer (some ⟨tb, 0, none⟩), .int .i64 old, v] w (LayP w sb b ml mc fm (layK T old p)) := by
  obtain ⟨pv, kv, dv, gv, rfl, hpi⟩ := hp
  obtain ⟨pa, pc, rfl, _⟩ := Slc.form hpi.pairs
  obtain ⟨ka, kc, rfl, _⟩ := Slc.form hpi.keys
  obtain ⟨da, dc, rfl, _⟩ := Slc.form hpi.kids
  obtain ⟨ga, gc, rfl, _⟩ := Slc.form hpi.pages
  obtain ⟨W1, hW1, hf1, hs1, b1⟩ := al1 w (.cells (pageCells p (.slice pa p.pairs.length pc) (.slice ka p.keys.length kc) (.slice da p.kids.length dc) (.slice ga p.pages.length gc)).toArray 90)
  have hlt := h.lt
  have htb : tb < w.heap.size := lt_of_cell hc0
  have hgn : w.heap.size ∉ [sb, fm, b, ml, mc] := by simp; omega
  have HNE := Lib.hid (And.intro hne hgn)
  have hpv : PageAt [sb, fm, b, ml, mc] W1 (.agg (pageCells p (.slice pa p.pairs.length pc) (.slice ka p.keys.length kc) (.slice da p.kids.length dc) (.slice ga p.pages.length gc)).toArray) p := ⟨_, _, _, _, rfl, hpi.kept hf1.nil⟩
  have HPV := Lib.hid hpv
  have HF := Lib.hid hf
  have HST := Lib.hid (h.kept hf1)
  have HG := Lib.hid hg
  have HF1 := Lib.hid hf1
  have HSB := Lib.hid h.lt.1
  have HB := Lib.hid b1
  have HSIZ := Lib.hid hs1
  have HS := Lib.hid fun (w' : World) (hq : Fr [] W1 w') => size_k w' ((hpi.kept hf1.nil).mono (S' := []) (by simp) |>.kept hq) (by have := hf.small; omega) (by have := hf.small; omega)
  have HM := Lib.hid fun (w' : World) => most_k (p := p) (pv := .slice pa p.pairs.length pc) (kv := .slice ka p.keys.length kc) (dv := .slice da p.kids.length dc) (gv := .slice ga p.pages.length gc) w'
  have HC0 := Lib.hid (hf1.cellSome hc0 (by simp))
  clear h hg hpi hf hf1 hlt htb hgn hne hpv hc0 hs1
  obtain ⟨sz, hsz⟩ : ∃ sz, sizeD p = sz := ⟨_, rfl⟩
  obtain ⟨mz, hmz⟩ : ∃ mz, mostD p = mz := ⟨_, rfl⟩
  have HSZ := Lib.hid (And.intro hsz hmz)
  rw [show p.pairs.length + p.keys.length = sz from hsz] at HS
  rw [show (if p.kind = 1 then (6 : Int) else 12) = mz by rw [← hmz]; unfold mostD; split <;> rfl] at HM
  clear hsz hmz
  unfold pageCells at HS HM HPV HB hW1 b1 ⊢
  clear b1
  have HX : Hid (∀ w', Fr [] W1 w' → Fr [] W1 w' ∧ w'.cell? ⟨w.heap.size, 0, none⟩ = some (.int .i64 p.kind) ∧ w'.cell? ⟨w.heap.size, 1, none⟩ = some (.slice pa p.pairs.length pc) ∧ w'.cell? ⟨w.heap.size, 2, none⟩ = some (.slice ka p.keys.length kc) ∧ w'.cell? ⟨w.heap.size, 3, none⟩ = some (.slice da p.kids.length dc) ∧ w'.cell? ⟨w.heap.size, 4, none⟩ = some (.slice ga p.pages.length gc) ∧ w'.cell? ⟨w.heap.size, 5, none⟩ = some (.int .i64 p.next) ∧ w'.cell? ⟨w.heap.size, 6, none⟩ = some (.int .u64 p.epoch) ∧ w'.cell? ⟨w.heap.size, 7, none⟩ = some (.int .i64 p.root) ∧ w'.cell? ⟨w.heap.size, 8, none⟩ = some (.int .i64 p.depth) ∧ w'.cell? ⟨w.heap.size, 9, none⟩ = some (.int .i64 p.count) ∧ w'.cell? ⟨w.heap.size, 10, none⟩ = some (.int .i64 p.high)) := Lib.hid fun w' hq => ⟨hq, c11 (hq.heap HB.out (by simp))⟩
  obtain ⟨cb, hcb⟩ : ∃ cb, decide (sz ≤ mz) = cb := ⟨_, rfl⟩
  have HCB := Lib.hid hcb
  have hszI : (sz : Int) ≤ 2000 := by have h1 := HF.out.small; have h2 := HSZ.out.1; unfold sizeD at h2; omega
  go_enter Tryz.func103, Tryz.ntmps103
  go_upto_region 1 with fail
  clear hW1
  go_cut [21] from 17 to 21 (fun x wr => x = .bool cb ∧ Fr [] W1 wr)
  case first =>
    go_region_held3 (fun w' => Fr [] W1 w' ∧ w'.cell? ⟨w.heap.size, 0, none⟩ = some (.int .i64 p.kind) ∧ w'.cell? ⟨w.heap.size, 1, none⟩ = some (.slice pa p.pairs.length pc) ∧ w'.cell? ⟨w.heap.size, 2, none⟩ = some (.slice ka p.keys.length kc) ∧ w'.cell? ⟨w.heap.size, 3, none⟩ = some (.slice da p.kids.length dc) ∧ w'.cell? ⟨w.heap.size, 4, none⟩ = some (.slice ga p.pages.length gc) ∧ w'.cell? ⟨w.heap.size, 5, none⟩ = some (.int .i64 p.next) ∧ w'.cell? ⟨w.heap.size, 6, none⟩ = some (.int .u64 p.epoch) ∧ w'.cell? ⟨w.heap.size, 7, none⟩ = some (.int .i64 p.root) ∧ w'.cell? ⟨w.heap.size, 8, none⟩ = some (.int .i64 p.depth) ∧ w'.cell? ⟨w.heap.size, 9, none⟩ = some (.int .i64 p.count) ∧ w'.cell? ⟨w.heap.size, 10, none⟩ = some (.int .i64 p.high))
      (first
      | (refine HX.out _ ?_; simp (maxDischargeDepth := 40) only [fr_dr, fr_refl])
      | (refine HX.out _ ?_; simp (maxDischargeDepth := 40) only [H3.out]))
      (first
      | (go_at_call 135
         refine (HS.out _ (And.left (by assumption))).mono ?_
         rintro e u ⟨rfl, hq⟩
         have H3 : Hid (Fr [] W1 u) := by
           refine Lib.hid (Fr.trans (And.left (by assumption)) hq)
         clear hq)
      | (go_at_call 136
         refine (HM.out _).mono ?_
         rintro e u ⟨rfl, hq⟩
         have H3 : Hid (Fr [] W1 u) := by
           refine Lib.hid (Fr.trans (And.left (by assumption)) hq)
         clear hq))
    all_goals
      go_wp2_with fail
      go_meet
      exact ⟨rfl, H3.out⟩
  case rest =>
    obtain ⟨rfl, hq⟩ := hcut
    have HQ := Lib.hid hq
    have HST2 := Lib.hid (HST.out.kept hq)
    have HPV2 := Lib.hid (HPV.out.kept hq.nil)
    have HB2 := Lib.hid (hq.heap HB.out (by simp))
    have HY : Hid (∀ w', Fr [sb, fm, b, ml, mc] wc w' → Fr [sb, fm, b, ml, mc] wc w' ∧ w'.cell? ⟨tb, 0, none⟩ = some (.pointer (some ⟨sb, 0, none⟩)) ∧ w'.cell? ⟨w.heap.size, 0, none⟩ = some (.int .i64 p.kind) ∧ w'.cell? ⟨w.heap.size, 1, none⟩ = some (.slice pa p.pairs.length pc) ∧ w'.cell? ⟨w.heap.size, 2, none⟩ = some (.slice ka p.keys.length kc) ∧ w'.cell? ⟨w.heap.size, 3, none⟩ = some (.slice da p.kids.length dc) ∧ w'.cell? ⟨w.heap.size, 4, none⟩ = some (.slice ga p.pages.length gc) ∧ w'.cell? ⟨w.heap.size, 5, none⟩ = some (.int .i64 p.next) ∧ w'.cell? ⟨w.heap.size, 6, none⟩ = some (.int .u64 p.epoch) ∧ w'.cell? ⟨w.heap.size, 7, none⟩ = some (.int .i64 p.root) ∧ w'.cell? ⟨w.heap.size, 8, none⟩ = some (.int .i64 p.depth) ∧ w'.cell? ⟨w.heap.size, 9, none⟩ = some (.int .i64 p.count) ∧ w'.cell? ⟨w.heap.size, 10, none⟩ = some (.int .i64 p.high)) := Lib.hid fun w' hz => ⟨hz, hz.cellSome (hq.cellSome HC0.out (by simp)) HNE.out.1, c11 (hz.heap HB2.out HNE.out.2)⟩
    clear hq hcb
    cases cb
    · have hbig : mostD p < sizeD p := by rw [HSZ.out.1, HSZ.out.2]; have := of_decide_eq_false HCB.out; omega
      have HLE : Hid (layK T old p = if (T.lay old (halfA p)).2.1 ≠ 0 then ([], [], (T.lay old (halfA p)).2.1, (T.lay old (halfA p)).2.2)
          else ([(T.lay old (halfA p)).1, ((T.lay old (halfA p)).2.2.lay 0 (halfB p)).1], [halfK p], ((T.lay old (halfA p)).2.2.lay 0 (halfB p)).2.1, ((T.lay old (halfA p)).2.2.lay 0 (halfB p)).2.2)) := Lib.hid (by
        unfold layK; rw [if_neg (by omega)])
      have hF := halves_F HF.out
      have hFB : PgF (halfB p) := by
        rcases hF.2 with h | ⟨h1, h2⟩
        · exact h
        · rcases HF.out.form with h3 | h3
          · omega
          · have : sizeD p = p.keys.length := by unfold sizeD; rw [h3.2.1]; simp
            have hm : mostD p = 12 := by unfold mostD; rw [if_neg (by omega)]
            omega
      have HFA := Lib.hid hF.1
      have HFB := Lib.hid hFB
      have HHV := Lib.hid (halves_k wc HPV2.out HF.out hbig)
      obtain ⟨r0, r1, r2, r3, r4, r5, r6, r7, r8, r9, r10⟩ := c11 HB2.out
      clear hbig hF hFB
      unfold HalfP at HHV
      generalize halfA p = ha at *
      generalize halfB p = hb at *
      generalize halfK p = hk at *
      go_wp2_with fail
      with_reducible refine HHV.out.mono ?_
      rintro e u1 ⟨va, vb, rfl, hpa, hpb, hu1⟩
      have HPA := Lib.hid hpa
      obtain ⟨_, _, _, _, rfl, hpa⟩ := hpa
      obtain ⟨ha1, ha2, rfl, _⟩ := Slc.form hpa.pairs
      obtain ⟨ha3, ha4, rfl, _⟩ := Slc.form hpa.keys
      obtain ⟨ha5, ha6, rfl, _⟩ := Slc.form hpa.kids
      obtain ⟨ha7, ha8, rfl, _⟩ := Slc.form hpa.pages
      have HPB := Lib.hid hpb
      obtain ⟨_, _, _, _, rfl, hpb⟩ := hpb
      obtain ⟨hb1, hb2, rfl, _⟩ := Slc.form hpb.pairs
      obtain ⟨hb3, hb4, rfl, _⟩ := Slc.form hpb.keys
      obtain ⟨hb5, hb6, rfl, _⟩ := Slc.form hpb.kids
      obtain ⟨hb7, hb8, rfl, _⟩ := Slc.form hpb.pages
      obtain ⟨W4, hW4, hf4, hs4, b4, b5⟩ := al2 u1 (.cells (pageCells ha (.slice ha1 ha.pairs.length ha2) (.slice ha3 ha.keys.length ha4) (.slice ha5 ha.kids.length ha6) (.slice ha7 ha.pages.length ha8)).toArray 90) (.cells (pageCells hb (.slice hb1 hb.pairs.length hb2) (.slice hb3 hb.keys.length hb4) (.slice hb5 hb.kids.length hb6) (.slice hb7 hb.pages.length hb8)).toArray 90)
      have HQ4 := Lib.hid ((HQ.out.trans hu1).trans hf4)
      have hst4 := (HST2.out.kept hu1).kept hf4
      have HLY := Lib.hid (lay_s old W4.drew (hst4.kept (Fr.refl _ _).drew) HG.out (HPA.out.kept hf4.drew.nil) HFA.out.sm HFA.out.ep.1 HFA.out.ep.2)
      have hn4 : u1.heap.size ∉ [sb, fm, b, ml, mc] ∧ u1.heap.size + 1 ∉ [sb, fm, b, ml, mc] := by
        have h1 := (HST2.out.kept hu1)
        exact ⟨h1.newN (Nat.le_refl _), h1.newN (by omega)⟩
      have HN4 := Lib.hid hn4
      have HGT := Lib.hid (HG.out.lay old ha)
      have HPB4 := Lib.hid (HPB.out.kept hf4.nil)
      have HC4 := Lib.hid ((hu1.trans hf4).cellSome (HQ.out.cellSome HC0.out (by simp)) (by simp))
      unfold pageCells at HLY hW4 b4 b5 HPB4 ⊢
      have HB5 := Lib.hid b5
      have HY4 : Hid (∀ w', Fr [sb, fm, b, ml, mc] W4 w' → Fr [sb, fm, b, ml, mc] W4 w' ∧ w'.cell? ⟨tb, 0, none⟩ = some (.pointer (some ⟨sb, 0, none⟩)) ∧ w'.cell? ⟨u1.heap.size, 0, none⟩ = some (.int .i64 ha.kind) ∧ w'.cell? ⟨u1.heap.size, 1, none⟩ = some (.slice ha1 ha.pairs.length ha2) ∧ w'.cell? ⟨u1.heap.size, 2, none⟩ = some (.slice ha3 ha.keys.length ha4) ∧ w'.cell? ⟨u1.heap.size, 3, none⟩ = some (.slice ha5 ha.kids.length ha6) ∧ w'.cell? ⟨u1.heap.size, 4, none⟩ = some (.slice ha7 ha.pages.length ha8) ∧ w'.cell? ⟨u1.heap.size, 5, none⟩ = some (.int .i64 ha.next) ∧ w'.cell? ⟨u1.heap.size, 6, none⟩ = some (.int .u64 ha.epoch) ∧ w'.cell? ⟨u1.heap.size, 7, none⟩ = some (.int .i64 ha.root) ∧ w'.cell? ⟨u1.heap.size, 8, none⟩ = some (.int .i64 ha.depth) ∧ w'.cell? ⟨u1.heap.size, 9, none⟩ = some (.int .i64 ha.count) ∧ w'.cell? ⟨u1.heap.size, 10, none⟩ = some (.int .i64 ha.high)) := Lib.hid fun w' hz => ⟨hz, hz.cellSome HC4.out HNE.out.1, c11 (hz.heap b4 HN4.out.1)⟩
      obtain ⟨⟨n1, e1, T1⟩, hR⟩ : ∃ x, T.lay old ha = x := ⟨_, rfl⟩
      rw [hR] at HLE HLY HGT
      dsimp only at HLE HLY HGT
      clear hR hpa hpb hu1 hf4 hs4 b4 b5 hst4 hn4 HHV
      clear r0 r1 r2 r3 r4 r5 r6 r7 r8 r9 r10
      go_upto_region 5 with fail
      clear hW4
      go_region_held3 (fun w' => Fr [sb, fm, b, ml, mc] W4 w' ∧ w'.cell? ⟨tb, 0, none⟩ = some (.pointer (some ⟨sb, 0, none⟩)) ∧ w'.cell? ⟨u1.heap.size, 0, none⟩ = some (.int .i64 ha.kind) ∧ w'.cell? ⟨u1.heap.size, 1, none⟩ = some (.slice ha1 ha.pairs.length ha2) ∧ w'.cell? ⟨u1.heap.size, 2, none⟩ = some (.slice ha3 ha.keys.length ha4) ∧ w'.cell? ⟨u1.heap.size, 3, none⟩ = some (.slice ha5 ha.kids.length ha6) ∧ w'.cell? ⟨u1.heap.size, 4, none⟩ = some (.slice ha7 ha.pages.length ha8) ∧ w'.cell? ⟨u1.heap.size, 5, none⟩ = some (.int .i64 ha.next) ∧ w'.cell? ⟨u1.heap.size, 6, none⟩ = some (.int .u64 ha.epoch) ∧ w'.cell? ⟨u1.heap.size, 7, none⟩ = some (.int .i64 ha.root) ∧ w'.cell? ⟨u1.heap.size, 8, none⟩ = some (.int .i64 ha.depth) ∧ w'.cell? ⟨u1.heap.size, 9, none⟩ = some (.int .i64 ha.count) ∧ w'.cell? ⟨u1.heap.size, 10, none⟩ = some (.int .i64 ha.high))
        (first
        | (refine HY4.out _ ?_; simp (maxDischargeDepth := 40) only [fr_dr, fr_refl])
        | (refine HY4.out _ ?_; simp (maxDischargeDepth := 40) only [H3.out]))
        (first
        | (go_at_call 54
           with_reducible refine HLY.out.mono ?_
           rintro e u ⟨rfl, fm1, h1, h2, h3⟩
           have H3 : Hid (Fr [sb, fm, b, ml, mc] W4 u) := by
             refine Lib.hid (Fr.trans (fr_dr fr_refl) h2)
           have HR := Lib.hid (And.intro h1 h3)
           clear h1 h2 h3))
      have HRR := Lib.hid (StoR.add (HF1.out.trans HQ4.out).nil (MR.of (HF1.out.trans HQ4.out) HSB.out) H3.out HR.out.2)
      by_cases he : e1 = 0
      · subst he
        have HLE1 : Hid (layK T old p = ([n1, (T1.lay 0 hb).1], [hk], (T1.lay 0 hb).2.1, (T1.lay 0 hb).2.2)) := Lib.hid (by rw [HLE.out, if_neg (by simp)])
        have hfm : ∀ x, x ∈ [sb, fm1, b, ml, mc] → x ∈ [sb, fm, b, ml, mc] ∨ W4.heap.size ≤ x := fun x hx => by
          have h1 := HR.out.2.1
          simp only [List.mem_cons, List.not_mem_nil, or_false] at hx ⊢
          rcases h1 with h1 | h1
          · subst h1; exact .inl hx
          · have : W4.heap.size ≤ fm1 := h1
            rcases hx with h | h | h | h | h
            · simp [h]
            · right; omega
            · simp [h]
            · simp [h]
            · simp [h]
        have hNu : u1.heap.size + 1 ∉ [sb, fm1, b, ml, mc] ∧ tb ∉ [sb, fm1, b, ml, mc] := by
          have h1 : W4.heap.size ≤ fm1 ∨ fm1 = fm := HR.out.2.1.symm
          have h2 := HN4.out.2
          have h3 := HNE.out.1
          have h4 := lt_of_heap HB5.out
          have h5 := lt_of_cell HC4.out
          simp only [List.mem_cons, List.not_mem_nil, or_false, not_or] at h2 h3 ⊢
          have h6 : tb < W4.heap.size := h5
          omega
        have HNU := Lib.hid hNu
        have b5 := H3.out.heap HB5.out HN4.out.2
        have HPB5 : Hid (PageAt [sb, fm1, b, ml, mc] u _ hb) := Lib.hid (by
          obtain ⟨_, _, _, _, e1, h1⟩ := HPB4.out
          exact ⟨_, _, _, _, e1, (((h1.more (S' := [sb, fm, b, ml, mc] ++ [sb, fm1, b, ml, mc]) (fun x hx => by
            rcases List.mem_append.1 hx with hx | hx
            · exact .inl hx
            · exact hfm x hx)).kept (H3.out.mono (fun x hx _ => List.mem_append.2 (.inl hx)))).mono (fun x hx => List.mem_append.2 (.inr hx)))⟩)
        have HLY5 := Lib.hid (lay_s 0 u.drew (HR.out.1.kept (Fr.refl _ _).drew) HGT.out (HPB5.out.kept (Fr.refl _ _).drew.nil) HFB.out.sm HFB.out.ep.1 HFB.out.ep.2)
        have HC5 := Lib.hid (H3.out.cellSome HC4.out HNE.out.1)
        have HY5 : Hid (∀ w', Fr [sb, fm1, b, ml, mc] u w' → Fr [sb, fm1, b, ml, mc] u w' ∧ w'.cell? ⟨tb, 0, none⟩ = some (.pointer (some ⟨sb, 0, none⟩)) ∧ w'.cell? ⟨u1.heap.size + 1, 0, none⟩ = some (.int .i64 hb.kind) ∧ w'.cell? ⟨u1.heap.size + 1, 1, none⟩ = some (.slice hb1 hb.pairs.length hb2) ∧ w'.cell? ⟨u1.heap.size + 1, 2, none⟩ = some (.slice hb3 hb.keys.length hb4) ∧ w'.cell? ⟨u1.heap.size + 1, 3, none⟩ = some (.slice hb5 hb.kids.length hb6) ∧ w'.cell? ⟨u1.heap.size + 1, 4, none⟩ = some (.slice hb7 hb.pages.length hb8) ∧ w'.cell? ⟨u1.heap.size + 1, 5, none⟩ = some (.int .i64 hb.next) ∧ w'.cell? ⟨u1.heap.size + 1, 6, none⟩ = some (.int .u64 hb.epoch) ∧ w'.cell? ⟨u1.heap.size + 1, 7, none⟩ = some (.int .i64 hb.root) ∧ w'.cell? ⟨u1.heap.size + 1, 8, none⟩ = some (.int .i64 hb.depth) ∧ w'.cell? ⟨u1.heap.size + 1, 9, none⟩ = some (.int .i64 hb.count) ∧ w'.cell? ⟨u1.heap.size + 1, 10, none⟩ = some (.int .i64 hb.high)) := Lib.hid fun w' hz => ⟨hz, hz.cellSome HC5.out HNU.out.2, c11 (hz.heap b5 HNU.out.1)⟩
        have HR1 := Lib.hid (And.intro HR.out.1 HR.out.2)
        obtain ⟨⟨n2, e2, T2⟩, hR⟩ : ∃ x, T1.lay 0 hb = x := ⟨_, rfl⟩
        rw [hR] at HLE1 HLY5
        dsimp only at HLE1 HLY5
        clear hR b5 hfm hNu
        go_upto_region 8 with fail
        go_region_held3 (fun w' => Fr [sb, fm1, b, ml, mc] u w' ∧ w'.cell? ⟨tb, 0, none⟩ = some (.pointer (some ⟨sb, 0, none⟩)) ∧ w'.cell? ⟨u1.heap.size + 1, 0, none⟩ = some (.int .i64 hb.kind) ∧ w'.cell? ⟨u1.heap.size + 1, 1, none⟩ = some (.slice hb1 hb.pairs.length hb2) ∧ w'.cell? ⟨u1.heap.size + 1, 2, none⟩ = some (.slice hb3 hb.keys.length hb4) ∧ w'.cell? ⟨u1.heap.size + 1, 3, none⟩ = some (.slice hb5 hb.kids.length hb6) ∧ w'.cell? ⟨u1.heap.size + 1, 4, none⟩ = some (.slice hb7 hb.pages.length hb8) ∧ w'.cell? ⟨u1.heap.size + 1, 5, none⟩ = some (.int .i64 hb.next) ∧ w'.cell? ⟨u1.heap.size + 1, 6, none⟩ = some (.int .u64 hb.epoch) ∧ w'.cell? ⟨u1.heap.size + 1, 7, none⟩ = some (.int .i64 hb.root) ∧ w'.cell? ⟨u1.heap.size + 1, 8, none⟩ = some (.int .i64 hb.depth) ∧ w'.cell? ⟨u1.heap.size + 1, 9, none⟩ = some (.int .i64 hb.count) ∧ w'.cell? ⟨u1.heap.size + 1, 10, none⟩ = some (.int .i64 hb.high))
          (first
          | (refine HY5.out _ ?_; simp (maxDischargeDepth := 40) only [fr_dr, fr_refl])
          | (refine HY5.out _ ?_; simp (maxDischargeDepth := 40) only [H5.out]))
          (first
          | (go_at_call 54
             with_reducible refine HLY5.out.mono ?_
             rintro e u5 ⟨rfl, fm2, h1, h2, h3⟩
             have H5 : Hid (Fr [sb, fm1, b, ml, mc] u u5) := by
               refine Lib.hid (Fr.trans (fr_dr fr_refl) h2)
             have HR5 := Lib.hid (And.intro h1 h3)
             clear h1 h2 h3))
        have HRR5 := Lib.hid (StoR.add HRR.out.1 HRR.out.2 H5.out HR5.out.2)
        go_wp2_with fail
        obtain ⟨W9, hW9, hf9, hs9, b9, b10⟩ := al2 u5 (.cells #[.int .i64 n1, .int .i64 n2] 3) (.cells #[.string hk] 9)
        rw [hW9]
        have HRA := StoR.add HRR5.out.1 HRR5.out.2 hf9.nil (MR.of hf9 HR5.out.1.lt.1)
        go_ret3
        rw [HLE1.out]
        exact ⟨_, _, fm2, rfl, HR5.out.1.kept hf9, HRA.1, HRA.2, fun S hS => ⟨Slc.ofBlock b9 (fun hm => by
          rcases hS _ hm with h | h
          · have := HRR5.out.1.size; omega
          · exact HR5.out.1.newN (Nat.le_refl _) h) 2 2 (Nat.le_refl _), Slc.ofBlock b10 (fun hm => by
          rcases hS _ hm with h | h
          · have := HRR5.out.1.size; omega
          · exact HR5.out.1.newN (by omega) h) 1 1 (Nat.le_refl _)⟩⟩
      · have HLE1 : Hid (layK T old p = ([], [], e1, T1)) := Lib.hid (by rw [HLE.out, if_pos he])
        have bne : (e1 != 0) = true := by simpa using he
        clear he
        go_wp2_with fail
        go_ret3
        rw [HLE1.out]
        exact ⟨_, _, fm1, rfl, HR.out.1, HRR.out.1, HRR.out.2, fun S _ => ⟨Slc.nil _ _, Slc.nil _ _⟩⟩
    · have HLE : Hid (layK T old p = ([(T.lay old p).1], [], (T.lay old p).2.1, (T.lay old p).2.2)) := Lib.hid (by
        unfold layK; rw [if_pos (by rw [HSZ.out.1, HSZ.out.2]; exact of_decide_eq_true HCB.out)])
      have HLY := Lib.hid (lay_s old wc.drew (HST2.out.kept (Fr.refl _ _).drew) HG.out (HPV2.out.kept (Fr.refl _ _).drew.nil) HF.out.sm HF.out.ep.1 HF.out.ep.2)
      obtain ⟨⟨n1, e1, T1⟩, hR⟩ : ∃ x, T.lay old p = x := ⟨_, rfl⟩
      rw [hR] at HLE HLY
      dsimp only at HLE HLY
      clear hR
      go_upto_region 2 with fail
      go_region_held3 (fun w' => Fr [sb, fm, b, ml, mc] wc w' ∧ w'.cell? ⟨tb, 0, none⟩ = some (.pointer (some ⟨sb, 0, none⟩)) ∧ w'.cell? ⟨w.heap.size, 0, none⟩ = some (.int .i64 p.kind) ∧ w'.cell? ⟨w.heap.size, 1, none⟩ = some (.slice pa p.pairs.length pc) ∧ w'.cell? ⟨w.heap.size, 2, none⟩ = some (.slice ka p.keys.length kc) ∧ w'.cell? ⟨w.heap.size, 3, none⟩ = some (.slice da p.kids.length dc) ∧ w'.cell? ⟨w.heap.size, 4, none⟩ = some (.slice ga p.pages.length gc) ∧ w'.cell? ⟨w.heap.size, 5, none⟩ = some (.int .i64 p.next) ∧ w'.cell? ⟨w.heap.size, 6, none⟩ = some (.int .u64 p.epoch) ∧ w'.cell? ⟨w.heap.size, 7, none⟩ = some (.int .i64 p.root) ∧ w'.cell? ⟨w.heap.size, 8, none⟩ = some (.int .i64 p.depth) ∧ w'.cell? ⟨w.heap.size, 9, none⟩ = some (.int .i64 p.count) ∧ w'.cell? ⟨w.heap.size, 10, none⟩ = some (.int .i64 p.high))
        (first
        | (refine HY.out _ ?_; simp (maxDischargeDepth := 40) only [fr_dr, fr_refl])
        | (refine HY.out _ ?_; simp (maxDischargeDepth := 40) only [H3.out]))
        (first
        | (go_at_call 54
           with_reducible refine HLY.out.mono ?_
           rintro e u ⟨rfl, fm1, h1, h2, h3⟩
           have H3 : Hid (Fr [sb, fm, b, ml, mc] wc u) := by
             refine Lib.hid (Fr.trans (fr_dr fr_refl) h2)
           have HR := Lib.hid (And.intro h1 h3)
           clear h1 h2 h3))
      go_wp2_with fail
      have HRR := Lib.hid (StoR.add (HF1.out.trans HQ.out).nil (MR.of (HF1.out.trans HQ.out) HSB.out) H3.out HR.out.2)
      have hal := Fr.alloc1 u (.cells #[.int .i64 n1] 3)
      have HRA := Lib.hid (StoR.add HRR.out.1 HRR.out.2 hal.nil (MR.of hal (HR.out.1.lt.1)))
      go_ret3
      rw [HLE.out]
      exact ⟨_, _, fm1, rfl, HR.out.1.kept hal, HRA.out.1, HRA.out.2, fun S hS => ⟨ints1 n1 _ (fun hm => by
        rcases hS _ hm with h | h
        · have := HRR.out.1.size; omega
        · exact HR.out.1.newN (Nat.le_refl _) h), Slc.nil _ _⟩⟩
end Go.Proofs.YtgpohemcfgepeaaGreat

namespace Go.Proofs.YtgpohemcfgepeaaGreat
open Go.RowKit Go.MapKept
theorem leafP_len {l : List PairD} (h : leafP l = true) : l.length ≤ 6 := by
  unfold leafP at h
  simp only [Bool.and_eq_true, decide_eq_true_eq] at h
  omega
theorem heads_ep {p : PageD} (h : p.heads = false) : p.epoch = 0 := by
  unfold PageD.heads at h
  simp only [Bool.or_eq_false_iff, bne_eq_false_iff_eq] at h
  exact h.1
theorem check_F {p : PageD} (h : p.check = true) (hk : p.kind = 1 ∨ p.kind = 2) : PgF p ∧ p.pairs.length ≤ 6 ∧ p.keys.length ≤ 12 ∧ (p.kind = 2 → 1 ≤ p.keys.length) := by
  unfold PageD.check at h
  rcases hk with hk | hk
  · rw [if_pos hk] at h
    simp only [Bool.and_eq_true, Bool.not_eq_true', decide_eq_true_eq] at h
    obtain ⟨⟨⟨⟨h1, h2⟩, h3⟩, h4⟩, h5⟩ := h
    have hp := leafP_len h1
    have h2' : p.keys.length = 0 ∧ p.kids.length = 0 := by
      unfold PageD.hasKids at h2
      have := of_decide_eq_false h2
      omega
    have h3' : p.pages.length = 0 := by
      unfold PageD.hasPages at h3
      have := of_decide_eq_false h3
      omega
    have he := heads_ep h4
    exact ⟨⟨⟨by omega, by omega, by omega, by omega⟩, by omega, .inl ⟨hk, List.eq_nil_of_length_eq_zero h2'.1⟩⟩, hp, by omega, by omega⟩
  · rw [if_neg (by omega), if_pos hk] at h
    simp only [Bool.and_eq_true, Bool.not_eq_true', decide_eq_true_eq] at h
    obtain ⟨⟨⟨⟨⟨⟨h1, h2⟩, h3⟩, h4⟩, h5⟩, h6⟩, h7⟩ := h
    unfold PageD.fit at h1
    simp only [Bool.and_eq_true, decide_eq_true_eq] at h1
    have h4' : p.pairs.length = 0 := by
      unfold PageD.hasPairs at h4
      have := of_decide_eq_false h4
      omega
    have h5' : p.pages.length = 0 := by
      unfold PageD.hasPages at h5
      have := of_decide_eq_false h5
      omega
    have he := heads_ep h6
    exact ⟨⟨⟨by omega, by omega, by omega, by omega⟩, by omega, .inr ⟨hk, List.eq_nil_of_length_eq_zero h4', h1.2⟩⟩, by omega, by omega, by omega⟩
theorem pageK_F {T : StD} {n d : Int} (h : (pageK T n d).2 = 0) : PgF (pageK T n d).1 ∧ (pageK T n d).1.kind = kindAt d ∧ (pageK T n d).1.pairs.length ≤ 6 ∧ (pageK T n d).1.keys.length ≤ 12 ∧ ((pageK T n d).1.kind = 2 → 1 ≤ (pageK T n d).1.keys.length) := by
  unfold pageK at h ⊢
  split at h
  · cases h
  · rename_i hc
    rw [if_neg hc]
    have hk : (T.page n).1.kind = kindAt d := by
      apply Classical.byContradiction
      intro hk
      exact hc (.inr (.inr ⟨h, hk⟩))
    have h12 : (T.page n).1.kind = 1 ∨ (T.page n).1.kind = 2 := by
      rw [hk]; unfold kindAt; split
      · exact .inl rfl
      · exact .inr rfl
    have hck : (T.page n).1.check = true := by
      unfold StD.page pageD at h h12 ⊢
      split at h
      · rename_i hz; exact absurd h hz
      · rename_i hz
        rw [if_neg hz] at h12 ⊢
        split at h
        · cases h
        · rename_i p hp
          split at h
          · cases h
          · rename_i h4
            rw [if_neg h4]
            exact (okAt_parts (dec_some hp).1).1
    obtain ⟨a, b, c, e⟩ := check_F hck h12
    exact ⟨a, hk, b, c, e⟩
theorem joinD_F {a b : PageD} {k : ByteArray} (fa : PgF a) (fb : PgF b) (hk : b.kind = a.kind) (h1 : a.pairs.length + b.pairs.length ≤ 1000) (h2 : a.keys.length + b.keys.length + 1 ≤ 1000) : PgF (joinD a k b) := by
  unfold joinD
  split
  · exact leafPg_F (by simp; omega)
  · rename_i h
    rcases fa.form with h3 | ⟨h3, h4, h5⟩
    · exact absurd h3.1 h
    · rcases fb.form with h6 | ⟨h6, h7, h8⟩
      · omega
      · exact branchPg_F (by simp; omega) (by simp; omega)
end Go.Proofs.YtgpohemcfgepeaaGreat

namespace Go.Proofs.YtgpohemcfgepeaaGreat
open Go.RowKit Go.MapKept
set_option maxRecDepth 100000 in
set_option maxHeartbeats 2000000 in
theorem tback_k {tb sb b ml mc fm : Nat} {t : TrD} (w : World) (h : TrAt w tb sb b ml mc fm t) :
    Calls Tryz.prog 65 #[.pointer (some ⟨tb, 0, none⟩)] w fun e w' => e = .returned (.tuple #[]) ∧ TrR w tb sb b ml mc fm t.back w' := by
  have c0 : w.cell? ⟨tb, 0, none⟩ = some (.pointer (some ⟨sb, 0, none⟩)) := blk_cell h.blk 0
  have hb : t.back = ⟨t.st, t.st.super.root, t.st.super.depth, t.st.super.count⟩ := rfl
  rw [hb]
  have HS := Lib.hid (super_s w h.sto)
  have HT := Lib.hid h
  obtain ⟨p, hpp⟩ : ∃ p, t.st.super = p := ⟨_, rfl⟩
  rw [hpp] at HS ⊢
  clear h hb hpp
  unfold PageAt pageCells at HS
  go_enter Tryz.func65, Tryz.ntmps65
  go_wp2_with fail
  with_reducible refine HS.out.mono ?_
  rintro e w1 ⟨v, rfl, hp, hf⟩
  obtain ⟨_, _, _, _, rfl, hpi⟩ := hp
  obtain ⟨p1, p2, rfl, _⟩ := Slc.form hpi.pairs
  obtain ⟨p3, p4, rfl, _⟩ := Slc.form hpi.keys
  obtain ⟨p5, p6, rfl, _⟩ := Slc.form hpi.kids
  obtain ⟨p7, p8, rfl, _⟩ := Slc.form hpi.pages
  obtain ⟨W2, hW2, hf2, hs2, b2⟩ := al1 w1 (.cells (pageCells p (.slice p1 p.pairs.length p2) (.slice p3 p.keys.length p4) (.slice p5 p.kids.length p6) (.slice p7 p.pages.length p8)).toArray 90)
  have ht2 := (HT.out.kept hf).kept hf2
  have HT2 := Lib.hid ht2
  have HF2 := Lib.hid (hf.trans hf2)
  unfold pageCells at hW2 b2
  have hne : tb ≠ w1.heap.size := by have := HT.out.lt; have := hf.size; omega
  have HX : Hid (∀ w', Fr [tb] W2 w' → Fr [tb] W2 w' ∧ w'.cell? ⟨w1.heap.size, 7, none⟩ = some (.int .i64 p.root) ∧ w'.cell? ⟨w1.heap.size, 8, none⟩ = some (.int .i64 p.depth) ∧ w'.cell? ⟨w1.heap.size, 9, none⟩ = some (.int .i64 p.count)) := Lib.hid fun w' hq => by
    have hb2 := hq.heap b2 (by rw [List.mem_singleton]; exact fun e => hne e.symm)
    exact ⟨hq, (c11 hb2).2.2.2.2.2.2.2.1, (c11 hb2).2.2.2.2.2.2.2.2.1, (c11 hb2).2.2.2.2.2.2.2.2.2.1⟩
  have hbk := ht2.blk
  have d1 : W2.cell? ⟨tb, 1, none⟩ = some (.int .i64 t.root) := blk_cell hbk 1
  have d2 : W2.cell? ⟨tb, 2, none⟩ = some (.int .i64 t.depth) := blk_cell hbk 2
  have d3 : W2.cell? ⟨tb, 3, none⟩ = some (.int .i64 t.count) := blk_cell hbk 3
  have y1 := blk_free hbk 1
  have y2 := blk_free hbk 2
  have y3 := blk_free hbk 3
  have HBK := Lib.hid hbk
  clear c0 hpi hf hf2 hs2 b2 ht2 hbk hne HS
  go_upto_region 1 with fail
  clear hW2
  go_region_held3 (fun w' => Fr [tb] W2 w' ∧ w'.cell? ⟨w1.heap.size, 7, none⟩ = some (.int .i64 p.root) ∧ w'.cell? ⟨w1.heap.size, 8, none⟩ = some (.int .i64 p.depth) ∧ w'.cell? ⟨w1.heap.size, 9, none⟩ = some (.int .i64 p.count))
    (first
    | (refine HX.out _ ?_; simp (maxDischargeDepth := 40) only [fr_dr, fr_sc, fr_refl, List.mem_singleton]))
    (fail)
  all_goals
    go_wp2_with fail
    go_end0
    refine ⟨rfl, TrR.trans HF2.out.nil ⟨.inl rfl, .ofFr HF2.out HT.out.sto.lt.1 (by simp)⟩ (HT2.out.written ?_ ?_)⟩
    · simp (maxDischargeDepth := 40) only [fr_dr, fr_sc, fr_refl, List.mem_singleton]
    · first
      | exact blk_set (blk_set (blk_set HBK.out 1 _) 2 _) 3 _
      | exact blk_set (blk_set (blk_set HBK.out 1 _) 3 _) 2 _
      | exact blk_set (blk_set (blk_set HBK.out 2 _) 1 _) 3 _
      | exact blk_set (blk_set (blk_set HBK.out 2 _) 3 _) 1 _
      | exact blk_set (blk_set (blk_set HBK.out 3 _) 1 _) 2 _
      | exact blk_set (blk_set (blk_set HBK.out 3 _) 2 _) 1 _
end Go.Proofs.YtgpohemcfgepeaaGreat

namespace Go.Proofs.YtgpohemcfgepeaaGreat
open Go.RowKit Go.MapKept
set_option maxRecDepth 100000 in
theorem tend_k {tb sb b ml mc fm eb : Nat} {t : TrD} {x : Int} {u : FrameMode} (w : World) (h : TrAt w tb sb b ml mc fm t) (he : w.cell? ⟨eb, 0, none⟩ = some (.int .i64 x)) :
    CallsD Tryz.prog 53 #[.pointer (some ⟨tb, 0, none⟩), .pointer (some ⟨eb, 0, none⟩)] u w fun e u' w' => u' = u ∧ (e = .returned (.tuple #[]) ∧ TrR w tb sb b ml mc fm (t.end x) w') := by
  have c0 : w.cell? ⟨tb, 0, none⟩ = some (.pointer (some ⟨sb, 0, none⟩)) := blk_cell h.blk 0
  have HE : Hid (t.end x = if x ≠ 0 ∧ x ≠ 80 then TrD.back { t with st := t.st.abort } else t) := Lib.hid rfl
  have HAB := Lib.hid (abort_k w h.sto)
  have HT := Lib.hid h
  clear h
  by_cases h0 : x = 0
  · subst h0
    have HP : Hid (t.end 0 = t) := Lib.hid (by rw [HE.out, if_neg (by simp)])
    rw [HP.out]
    go_enter_d Tryz.func53, Tryz.ntmps53
    go_wp2_with fail
    go_end0
    exact ⟨rfl, .ofFr HT.out (Fr.refl _ _)⟩
  have b0 : (x != 0) = true := by simpa using h0
  by_cases h8 : x = 80
  · subst h8
    have HP : Hid (t.end 80 = t) := Lib.hid (by rw [HE.out, if_neg (by simp)])
    rw [HP.out]
    clear h0
    go_enter_d Tryz.func53, Tryz.ntmps53
    go_wp2_with fail
    go_end0
    exact ⟨rfl, .ofFr HT.out (Fr.refl _ _)⟩
  have b8 : (x != 80) = true := by simpa using h8
  have HP : Hid (t.end x = TrD.back { t with st := t.st.abort }) := Lib.hid (by rw [HE.out, if_pos ⟨h0, h8⟩])
  rw [HP.out]
  clear h0 h8
  go_enter_d Tryz.func53, Tryz.ntmps53
  go_wp2_with fail
  with_reducible refine HAB.out.mono ?_
  rintro e w1 ⟨rfl, hr⟩
  obtain ⟨fm1, h1, h2, h3, h4⟩ := HT.out.stored hr
  have HBK := Lib.hid (tback_k w1 h1)
  have HR := Lib.hid (And.intro h2 (And.intro h3 h4))
  clear hr h1 h2 h3 h4
  go_wp2_with fail
  with_reducible refine HBK.out.mono ?_
  rintro e w2 ⟨rfl, hr⟩
  have HR2 := Lib.hid (TrR.trans HR.out.1 HR.out.2 hr)
  clear hr
  go_wp2_with fail
  go_end0
  exact ⟨rfl, HR2.out⟩
set_option maxRecDepth 100000 in
theorem of_nil (w : World) : Calls Tryz.prog 27 #[.pointer none] w fun e w' => e = .returned (.tuple #[.pointer none, .int .i64 1]) ∧ w = w' := by
  have hn : ∀ w : World, (binOp BinOp.eql 50 (.pointer none) (.pointer none)).run Tryz.prog w = .ok (.bool true) w := fun _ => by kernel_rfl
  go_enter Tryz.func27, Tryz.ntmps27
  go_wp2
  go_ret2
  exact ⟨rfl, rfl⟩
set_option maxRecDepth 100000 in
theorem of_tree {sb b ml mc fm : Nat} {T : StD} (w : World) (h : StoAt w sb b ml mc fm T) :
    Calls Tryz.prog 27 #[.pointer (some ⟨sb, 0, none⟩)] w fun e w' => e = .returned (.tuple #[.pointer (some ⟨w.heap.size, 0, none⟩), .int .i64 0]) ∧ ∃ fm', TrAt w' w.heap.size sb b ml mc fm' ⟨T, T.super.root, T.super.depth, T.super.count⟩ ∧ Fr [sb, fm, b, ml, mc] w w' ∧ ((fm' = fm ∨ w.heap.size ≤ fm') ∧ ApK w sb w') := by
  obtain ⟨W1, hW1, hf1, hs1, b1⟩ := al1 w (.cells (trL sb 0 0 0) 83)
  have ht : TrAt W1 w.heap.size sb b ml mc fm ⟨T, 0, 0, 0⟩ := ⟨b1, h.kept hf1, (h.apNew (Nat.le_refl _)).kept hf1 h.lt.1 (by simp)⟩
  have HBK := Lib.hid (tback_k W1 ht)
  have HF := Lib.hid (And.intro hf1 h.lt.1)
  unfold trL at hW1
  clear ht h hf1 hs1 b1
  go_enter Tryz.func27, Tryz.ntmps27
  go_wp2_with fail
  with_reducible refine HBK.out.mono ?_
  rintro e w2 ⟨rfl, fm2, h1, h2, h3, h4⟩
  have HQ : Hid (∃ fm', TrAt w2 w.heap.size sb b ml mc fm' ⟨T, T.super.root, T.super.depth, T.super.count⟩ ∧ Fr [sb, fm, b, ml, mc] w w2 ∧ ((fm' = fm ∨ w.heap.size ≤ fm') ∧ ApK w sb w2)) := Lib.hid ⟨fm2, h1, (HF.out.1.nil.trans h2).mono (fun x hx hl => by
    rcases List.mem_cons.1 hx with rfl | hx
    · omega
    · exact hx), h3.imp id (fun h => by have := HF.out.1.size; omega), (ApK.ofFr HF.out.1 HF.out.2 (by simp)).trans h4 HF.out.1.size⟩
  clear h1 h2 h3 h4 hW1
  go_wp2_with fail
  go_ret2
  exact ⟨rfl, HQ.out⟩
end Go.Proofs.YtgpohemcfgepeaaGreat
