/- a part. -/
import Derived.Test.YtgpohemcfgepeaaGreatTK
import Derived.Test.YtgpohemcfgepeaaGreatT9
namespace Go.Proofs.YtgpohemcfgepeaaGreat
open Go.RowKit Go.MapKept
theorem cmp_zero (a key : ByteArray) : decide (cmpK a key = 0) = decide (a = key) := by
  unfold cmpK
  by_cases h1 : Op.bytesLess a.toList key.toList = true
  · rw [if_pos h1]
    have : a ≠ key := by
      intro e
      have h2 : kLt a key = true := h1
      rw [e, kLt_irrefl] at h2
      cases h2
    simp [this]
  · rw [if_neg h1]
    by_cases h2 : (a.toList == key.toList) = true
    · rw [if_pos h2]
      have : a = key := ba_toList_inj (by simpa using h2)
      simp [this]
    · rw [if_neg h2]
      have : a ≠ key := by
        intro e; subst e; simp at h2
      simp [this]
theorem find_at {S : List Nat} {p : PageD} {pv kv dv gv : Value} (key : ByteArray) (w : World) (hp : PageIn S w p pv kv dv gv) (hn : p.pairs.length ≤ 6) (hs : Sorted p.pairs) :
    Calls Tryz.prog 57 #[.agg (pageCells p pv kv dv gv).toArray, .string key] w fun e w' => e = .returned (.tuple #[.int .i64 (findN p.pairs key), .bool (findB p.pairs key)]) ∧ Fr [] w w' :=
  find_k key w hp (by omega) (findN_le _ _) (findN_at hs) (by
    unfold findB
    cases h : p.pairs[findN p.pairs key]? with
    | none => rfl
    | some x => exact cmp_zero x.1 key)
theorem rowsP3 {w : World} {h : Nat} {U : TypeId} {x1 x2 x3 : Value} {l1 l2 l3 : List PairD} (hb : w.heap[h]? = some (.cells #[x1, x2, x3] U (0, 0))) (h1 : Prs [] w x1 l1) (h2 : Prs [] w x2 l2) (h3 : Prs [] w x3 l3) : PRows [] w (.slice (some ⟨h, 0, none⟩) 3 3) [l1, l2, l3] :=
  rows_ofP (xs := [x1, x2, x3]) hb rfl (fun i x l hx hl => by
    match i with
    | 0 => cases hx; cases hl; exact h1
    | 1 => cases hx; cases hl; exact h2
    | 2 => cases hx; cases hl; exact h3
    | i + 3 => cases hx)
theorem rowsP2 {w : World} {h : Nat} {U : TypeId} {x1 x2 : Value} {l1 l2 : List PairD} (hb : w.heap[h]? = some (.cells #[x1, x2] U (0, 0))) (h1 : Prs [] w x1 l1) (h2 : Prs [] w x2 l2) : PRows [] w (.slice (some ⟨h, 0, none⟩) 2 2) [l1, l2] :=
  rows_ofP (xs := [x1, x2]) hb rfl (fun i x l hx hl => by
    match i with
    | 0 => cases hx; cases hl; exact h1
    | 1 => cases hx; cases hl; exact h2
    | i + 2 => cases hx)
theorem prs1 {w : World} {h : Nat} {U : TypeId} {k v : ByteArray} (hb : w.heap[h]? = some (.cells #[.string k, .string v] U (0, 0))) : Prs [] w (.slice (some ⟨h, 0, none⟩) 1 1) [(k, v)] :=
  Slc.ofBlock hb (by simp) 1 1 (Nat.le_refl _)
theorem Prs.dropC {S : List Nat} {w : World} {B off cap : Nat} {l : List PairD} (h : Prs S w (.slice (some ⟨B, off, none⟩) l.length cap) l) {k : Nat} (hk : k ≤ l.length) (hc : l.length ≤ cap) : Prs S w (.slice (if cap = k then some ⟨B, off, none⟩ else some ⟨B, off + k * 2, none⟩) (l.length - k) (cap - k)) (l.drop k) := by
  by_cases e : cap = k
  · rw [if_pos e, List.drop_eq_nil_of_le (by omega), show l.length - k = 0 by omega, show cap - k = 0 by omega]
    exact .inl ⟨_, _, rfl, rfl, rfl, fun h => by cases h⟩
  · rw [if_neg e]; exact Prs.drop h hk
theorem leaf1_results {tmps : Array Value} {w : World} {g : Nat} {x0 x1 x2 x3 x4 x5 x6 x7 x8 x9 x10 : Value} {is : Bool} (h4 : tmps.getD 5 undef = .pointer (some ⟨g, 0, none⟩)) (h5 : tmps.getD 6 undef = .bool is)
    (hp : w.heap[g]? = some (.cells #[x0, x1, x2, x3, x4, x5, x6, x7, x8, x9, x10] 90 (0, 0))) :
    (results Tryz.f56 tmps).run Tryz.prog w = .ok (.tuple #[.agg #[x0, x1, x2, x3, x4, x5, x6, x7, x8, x9, x10], .bool is]) w := by
  obtain ⟨q0, q1, q2, q3, q4, q5, q6, q7, q8, q9, q10⟩ := c11 hp
  rw [Array.getD_eq_getD_getElem?] at h4 h5
  simp [results, Tryz.results56, go_sem, h4, h5, q0, q1, q2, q3, q4, q5, q6, q7, q8, q9, q10]
def SetP1 (S : List Nat) (w : World) (mb : Nat) (key val : ByteArray) (p : PageD) (e : Ending) (w2 : World) : Prop := ∃ v', e = .returned (.tuple #[v', .bool true]) ∧ PageAt S w2 v' (setLeaf key val p).1 ∧ Fr [mb] w w2 ∧ w2.heap[mb]? = some (.cells #[.int .i64 (if findB p.pairs key = true then 0 else 1)] 3 (0, 0))
set_option maxRecDepth 100000 in
set_option maxHeartbeats 4000000 in
theorem set1_k {S : List Nat} {kb mb pb : Nat} {key val : ByteArray} {p : PageD} {v : Value} (w : World) (hk : w.heap[kb]? = some (.cells #[.string key] 9 (0, 0))) (hm : w.heap[mb]? = some (.cells #[.int .i64 0] 3 (0, 0))) (hb : w.heap[pb]? = some (.cells #[.string key, .string val] 36 (0, 0))) (hS : ∀ x ∈ S, x < w.heap.size) (hmS : mb ∈ S) (hp : PageAt S w v p) (D : PgD p 1) :
    Calls Tryz.prog 56 #[v, .pointer (some ⟨kb, 0, none⟩), .pointer (some ⟨mb, 0, none⟩), .pointer (some ⟨pb, 0, none⟩)] w (SetP1 S w mb key val p) := by
  have hk1 : p.kind = 1 := by rw [D.kind]; rfl
  have hpos := D.pos hk1
  have hle := D.pairs
  obtain ⟨_, _, _, _, rfl, hpi⟩ := hp
  obtain ⟨p1, p2, rfl, hp2⟩ := Slc.form hpi.pairs
  obtain ⟨p3, p4, rfl, _⟩ := Slc.form hpi.keys
  obtain ⟨p5, p6, rfl, _⟩ := Slc.form hpi.kids
  obtain ⟨p7, p8, rfl, _⟩ := Slc.form hpi.pages
  obtain ⟨B, off, rfl⟩ : ∃ B off, p1 = some ⟨B, off, none⟩ := by
    rcases hpi.pairs with ⟨_, _, _, h0, _⟩ | ⟨B, off, cap, h, _⟩
    · omega
    · cases h; exact ⟨B, off, rfl⟩
  obtain ⟨W2, hW2, hf2, hs2, b1, b2⟩ := al2 w (.cells #[.int .i64 p.kind, .slice (some ⟨B, off, none⟩) p.pairs.length p2, .slice p3 p.keys.length p4, .slice p5 p.kids.length p6, .slice p7 p.pages.length p8, .int .i64 p.next, .int .u64 p.epoch, .int .i64 p.root, .int .i64 p.depth, .int .i64 p.count, .int .i64 p.high] 90) (.cells #[.int .i64 0, .slice none 0 0, .slice none 0 0, .slice none 0 0, .slice none 0 0, .int .i64 0, .int .u64 0, .int .i64 0, .int .i64 0, .int .i64 0, .int .i64 0] 90)
  have HFD := Lib.hid (find_at key W2 (hpi.kept hf2.nil) hle (D.ps hk1))
  unfold pageCells at HFD ⊢
  have hkl : kb < w.heap.size := lt_of_heap hk
  have hml : mb < w.heap.size := lt_of_heap hm
  have hbl : pb < w.heap.size := lt_of_heap hb
  have hne : kb ≠ mb ∧ pb ≠ mb := by
    refine ⟨?_, ?_⟩
    · rintro rfl; rw [hk] at hm; cases hm
    · rintro rfl; rw [hb] at hm; cases hm
  have HL := Lib.hid (And.intro hkl (And.intro hml (And.intro hbl (And.intro hs2 hne))))
  have HP := Lib.hid (And.intro hpos (And.intro hle hp2))
  have HS := Lib.hid (And.intro hS hmS)
  have HPI := Lib.hid ((hpi.more (S' := S ++ [w.heap.size + 1]) (fun x hx => by
    rcases List.mem_append.1 hx with hx | hx
    · exact .inl hx
    · right; rw [List.mem_singleton] at hx; omega)).kept hf2.nil)
  have HB := Lib.hid (And.intro b1 (And.intro b2 (And.intro (hf2.heap hk (by simp)) (And.intro (hf2.heap hm (by simp)) (hf2.heap hb (by simp))))))
  have HF2 := Lib.hid hf2
  have kc := blk_cell (hf2.heap hk (by simp)) 0
  simp only [List.getElem?_toArray, List.getElem?_cons_zero] at kc
  obtain ⟨q0, q1, q2, q3, q4, q5, q6, q7, q8, q9, q10⟩ := c11 b1
  obtain ⟨c, hc⟩ : ∃ c, findN p.pairs key = c := ⟨_, rfl⟩
  obtain ⟨fb, hfb⟩ : ∃ fb, findB p.pairs key = fb := ⟨_, rfl⟩
  have hcl : c ≤ p.pairs.length := by rw [← hc]; exact findN_le _ _
  have hcb : fb = true → c < p.pairs.length := fun h => by rw [← hc]; exact findB_lt (by rw [hfb]; exact h)
  have HCB := Lib.hid (And.intro hcl hcb)
  have HSL : Hid ((setLeaf key val p).1 = leafPg (p.pairs.take c ++ [(key, val)] ++ p.pairs.drop (c + if fb = true then 1 else 0))) := Lib.hid (by unfold setLeaf; rw [hc, hfb])
  rw [hc, hfb] at HFD
  unfold SetP1
  rw [HSL.out, hfb]
  have hc0 : (0 : Int) ≤ c := by omega
  have hc1 : (c : Int) ≤ 6 := by omega
  clear hk hm hb hS hmS hpi D hk1 hpos hle hp2 hf2 hs2 b1 b2 hkl hml hbl hne hc hfb hcl hcb
  go_enter Tryz.func56, Tryz.ntmps56
  go_wp2_with fail
  clear hW2
  with_reducible refine HFD.out.mono ?_
  rintro e u1 ⟨rfl, hu1⟩
  clear q0 q1 q2 q3 q4 q5 q6 q7 q8 q9 q10 kc
  cases fb
  · have HTT : Hid (c ≤ p.pairs.length) := Lib.hid HCB.out.1
    obtain ⟨aP, haP⟩ : ∃ a, (if p2 = c then some (⟨B, off, none⟩ : Addr) else some ⟨B, off + c * 2, none⟩) = a := ⟨_, rfl⟩
    have hm1 := hu1.heap HB.out.2.2.2.1 (by simp)
    have m0 := blk_cell hm1 0
    have m1 := blk_free hm1 0
    simp only [List.getElem?_toArray, List.getElem?_cons_zero] at m0
    obtain ⟨W3, hW3, hf3, hs3, b3⟩ := st1 hm1 0 (.int .i64 1)
    have hL := HL.out
    have HB4 := Lib.hid (And.intro (hf3.heap (hu1.heap HB.out.1 (by simp)) (by rw [List.mem_singleton]; omega)) (And.intro (hf3.heap (hu1.heap HB.out.2.1 (by simp)) (by rw [List.mem_singleton]; omega)) (hf3.heap (hu1.heap HB.out.2.2.2.2 (by simp)) (by rw [List.mem_singleton]; omega))))
    have HB4M : Hid (W3.heap[mb]? = some (.cells #[.int .i64 1] 3 (0, 0))) := Lib.hid b3
    have HPB := Lib.hid (((HPI.out.pairs.kept hu1.nil).kept (hf3.mono (fun x hx _ => by rw [List.mem_singleton] at hx; subst hx; exact List.mem_append.2 (.inl HS.out.2)))).mono (S' := [w.heap.size + 1]) (by simp))
    have HSZ4 : Hid (w.heap.size + 1 < W3.heap.size) := Lib.hid (by have := hu1.size; omega)
    have HF4 : Hid (Fr [mb] W2 W3) := Lib.hid (hu1.nil.trans hf3)
    clear hm1 hf3 hs3 b3 hL hu1
    have HX : Hid (∀ w', Fr [w.heap.size + 1] W3 w' → Fr [w.heap.size + 1] W3 w' ∧ w'.cell? ⟨w.heap.size, 1, none⟩ = some (.slice (some ⟨B, off, none⟩) p.pairs.length p2) ∧ w'.cell? ⟨pb, 0, none⟩ = some (.string key) ∧ w'.cell? ⟨pb, 1, none⟩ = some (.string val)) := Lib.hid fun w' hq => ⟨hq, (c11 (hq.heap HB4.out.1 (by rw [List.mem_singleton]; omega))).2.1, blk_cell (hq.heap HB4.out.2.2 (by rw [List.mem_singleton]; have := HL.out; omega)) 0, blk_cell (hq.heap HB4.out.2.2 (by rw [List.mem_singleton]; have := HL.out; omega)) 1⟩
    have HPA : Hid (∀ w', Fr [w.heap.size + 1] W3 w' → Prs [] w' (.slice (some ⟨B, off, none⟩) c p2) (p.pairs.take c) ∧ Prs [] w' (.slice aP (p.pairs.length - (c)) (p2 - (c))) (p.pairs.drop (c))) := Lib.hid fun w' hq => by
      have h := HPB.out.kept hq
      refine ⟨(Prs.take h HCB.out.1).mono (by simp), ?_⟩
      rw [← haP]
      exact (Prs.dropC h (by have := HCB.out; have := HTT.out; omega) HP.out.2.2).mono (by simp)
    have HRT0 : Hid (∃ r, [p.pairs.take c, [(key, val)], p.pairs.drop (c)].flatten = r ∧ r = p.pairs.take c ++ [(key, val)] ++ p.pairs.drop (c) ∧ r.length ≤ 1048576) := Lib.hid ⟨_, rfl, by simp, by have := HP.out; simp; omega⟩
    obtain ⟨rT, hrT⟩ := HRT0.out
    have HRT := Lib.hid hrT
    have a1 : (c : Int) ≤ p.pairs.length := by have := HCB.out; omega
    have a2 : (c : Int) ≤ p2 := by have := HCB.out; have := HP.out; omega
    have a3 : (p.pairs.length : Int) ≤ p2 := by have := HP.out; omega
    clear HRT0 hrT
    go_upto_region 6 with fail
    go_region_held3 (fun w' => Fr [w.heap.size + 1] W3 w' ∧ w'.cell? ⟨w.heap.size, 1, none⟩ = some (.slice (some ⟨B, off, none⟩) p.pairs.length p2) ∧ w'.cell? ⟨pb, 0, none⟩ = some (.string key) ∧ w'.cell? ⟨pb, 1, none⟩ = some (.string val))
      (first
      | (refine HX.out _ ?_; simp (maxDischargeDepth := 40) only [fr_dr, fr_al, fr_refl])
      | (refine HX.out _ ?_; simp (maxDischargeDepth := 40) only [fr_sc, H3.out, List.mem_singleton]))
      (first
      | (go_at_call 58
         refine (concatP_k (S := []) (ls := [p.pairs.take c, [(key, val)], p.pairs.drop (c)]) _ (rowsP3 (by first | exact blk_new _ _ | exact bk2a _ _ _ | exact bk2b _ _ _) (HPA.out _ (And.left (by assumption))).1 (prs1 (by first | exact blk_new _ _ | exact bk2a _ _ _ | exact bk2b _ _ _)) (HPA.out _ (And.left (by assumption))).2) (by rw [HRT.out.1]; exact HRT.out.2.2) (by simp)).mono ?_
         rintro e uT ⟨vT, rfl, hnT, hTF⟩
         rw [HRT.out.1] at hnT
         obtain ⟨tA, tC, rfl, _⟩ := Slc.form (hnT [] (by simp))
         have h3 : Hid (Fr [] W3 uT) := by
           refine Lib.hid ?_
           refine Fr.trans ?_ hTF
           first | exact (Fr.alloc1 _ _).trans (Fr.alloc1 _ _) | exact ((Fr.alloc1 _ _).trans (Fr.alloc1 _ _)).drew
         have hb := h3.out.heap HB4.out.2.1 (by simp)
         have HBT := Lib.hid hb
         have HT3 := h3
         have H3 : Hid (Fr [w.heap.size + 1] W3 uT) := Lib.hid h3.out.nil
         obtain ⟨t0, t1, t2, t3, t4, t5, t6, t7, t8, t9, t10⟩ := c11 hb
         obtain ⟨z0, z1, z2, z3, z4, z5, z6, z7, z8, z9, z10⟩ := f11 hb
         have HNT := Lib.hid fun (S : List Nat) (hS : ∀ x, x ∈ S → x < W3.heap.size) => hnT S (fun x hx => Nat.lt_of_lt_of_le (hS x hx) (Fr.size (And.left (by assumption))))
         clear hnT hTF hb h3))
    go_wp2_with fail
    obtain ⟨Wa, hWa, fa, ba⟩ := st11 HBT.out rfl (.int .i64 1) (.slice tA rT.length tC) nilV nilV nilV (.int .i64 0) (.int .u64 0) (.int .i64 0) (.int .i64 0) (.int .i64 0) (.int .i64 0)
    rw [hWa]
    refine bodyPost_ret (v := .tuple #[.agg #[.int .i64 1, .slice tA rT.length tC, nilV, nilV, nilV, .int .i64 0, .int .u64 0, .int .i64 0, .int .i64 0, .int .i64 0, .int .i64 0], .bool true]) (leaf1_results rfl rfl ba) rfl ⟨_, rfl, ⟨_, _, _, _, rfl, ?_, Slc.nil _ _, Slc.nil _ _, Slc.nil _ _⟩, ?_, ?_⟩
    · have hrT : p.pairs.take c ++ (key, val) :: p.pairs.drop (c) = rT := by rw [HRT.out.2.1]; simp
      show Prs S Wa _ (p.pairs.take c ++ (key, val) :: p.pairs.drop (c))
      rw [hrT]
      exact ((HNT.out ((w.heap.size + 1) :: S) (fun x hx => by
        have h1 := HSZ4.out
        rcases List.mem_cons.1 hx with rfl | hx
        · omega
        · have := HS.out.1 x hx; omega)).kept (fa.mono (by simp))).mono (fun x hx => List.mem_cons_of_mem _ hx)
    · exact (((HF2.out.nil.trans HF4.out).trans HT3.out.nil).mono (S' := (w.heap.size + 1) :: [mb]) (by simp)).trans (fa.mono (by simp)) |>.mono (fun x hx hl => by
        rcases List.mem_cons.1 hx with rfl | hx
        · omega
        · exact hx)
    · exact fa.heap (HT3.out.heap HB4M.out (by simp)) (by rw [List.mem_singleton]; have := HL.out; omega)
  · have HTT : Hid (c < p.pairs.length) := Lib.hid (HCB.out.2 rfl)
    obtain ⟨aP, haP⟩ : ∃ a, (if p2 = c + 1 then some (⟨B, off, none⟩ : Addr) else some ⟨B, off + (c + 1) * 2, none⟩) = a := ⟨_, rfl⟩
    have HB4 := Lib.hid (And.intro (hu1.heap HB.out.1 (by simp)) (And.intro (hu1.heap HB.out.2.1 (by simp)) (hu1.heap HB.out.2.2.2.2 (by simp))))
    have HB4M := Lib.hid (hu1.heap HB.out.2.2.2.1 (by simp))
    have HPB := Lib.hid ((HPI.out.pairs.kept hu1.nil).mono (S' := [w.heap.size + 1]) (by simp))
    have HSZ4 : Hid (w.heap.size + 1 < u1.heap.size) := Lib.hid (by have := HL.out; have := hu1.size; omega)
    have HF4 : Hid (Fr [mb] W2 u1) := Lib.hid hu1.nil
    have e1 : ((c : Int) + 1).toNat = c + 1 := by omega
    have e2 : (c : Int) + 1 ≤ p.pairs.length := by have := HTT.out; omega
    have e3 : (c : Int) + 1 ≤ p2 := by have := HTT.out; have := HP.out; omega
    have e4 : (0 : Int) ≤ (c : Int) + 1 := by omega
    clear hu1
    have HX : Hid (∀ w', Fr [w.heap.size + 1] u1 w' → Fr [w.heap.size + 1] u1 w' ∧ w'.cell? ⟨w.heap.size, 1, none⟩ = some (.slice (some ⟨B, off, none⟩) p.pairs.length p2) ∧ w'.cell? ⟨pb, 0, none⟩ = some (.string key) ∧ w'.cell? ⟨pb, 1, none⟩ = some (.string val)) := Lib.hid fun w' hq => ⟨hq, (c11 (hq.heap HB4.out.1 (by rw [List.mem_singleton]; omega))).2.1, blk_cell (hq.heap HB4.out.2.2 (by rw [List.mem_singleton]; have := HL.out; omega)) 0, blk_cell (hq.heap HB4.out.2.2 (by rw [List.mem_singleton]; have := HL.out; omega)) 1⟩
    have HPA : Hid (∀ w', Fr [w.heap.size + 1] u1 w' → Prs [] w' (.slice (some ⟨B, off, none⟩) c p2) (p.pairs.take c) ∧ Prs [] w' (.slice aP (p.pairs.length - (c + 1)) (p2 - (c + 1))) (p.pairs.drop (c + 1))) := Lib.hid fun w' hq => by
      have h := HPB.out.kept hq
      refine ⟨(Prs.take h HCB.out.1).mono (by simp), ?_⟩
      rw [← haP]
      exact (Prs.dropC h (by have := HCB.out; have := HTT.out; omega) HP.out.2.2).mono (by simp)
    have HRT0 : Hid (∃ r, [p.pairs.take c, [(key, val)], p.pairs.drop (c + 1)].flatten = r ∧ r = p.pairs.take c ++ [(key, val)] ++ p.pairs.drop (c + 1) ∧ r.length ≤ 1048576) := Lib.hid ⟨_, rfl, by simp, by have := HP.out; simp; omega⟩
    obtain ⟨rT, hrT⟩ := HRT0.out
    have HRT := Lib.hid hrT
    have a1 : (c : Int) ≤ p.pairs.length := by have := HCB.out; omega
    have a2 : (c : Int) ≤ p2 := by have := HCB.out; have := HP.out; omega
    have a3 : (p.pairs.length : Int) ≤ p2 := by have := HP.out; omega
    clear HRT0 hrT
    go_upto_region 6 with fail
    go_region_held3 (fun w' => Fr [w.heap.size + 1] u1 w' ∧ w'.cell? ⟨w.heap.size, 1, none⟩ = some (.slice (some ⟨B, off, none⟩) p.pairs.length p2) ∧ w'.cell? ⟨pb, 0, none⟩ = some (.string key) ∧ w'.cell? ⟨pb, 1, none⟩ = some (.string val))
      (first
      | (refine HX.out _ ?_; simp (maxDischargeDepth := 40) only [fr_dr, fr_al, fr_refl])
      | (refine HX.out _ ?_; simp (maxDischargeDepth := 40) only [fr_sc, H3.out, List.mem_singleton]))
      (first
      | (go_at_call 58
         refine (concatP_k (S := []) (ls := [p.pairs.take c, [(key, val)], p.pairs.drop (c + 1)]) _ (rowsP3 (by first | exact blk_new _ _ | exact bk2a _ _ _ | exact bk2b _ _ _) (HPA.out _ (And.left (by assumption))).1 (prs1 (by first | exact blk_new _ _ | exact bk2a _ _ _ | exact bk2b _ _ _)) (HPA.out _ (And.left (by assumption))).2) (by rw [HRT.out.1]; exact HRT.out.2.2) (by simp)).mono ?_
         rintro e uT ⟨vT, rfl, hnT, hTF⟩
         rw [HRT.out.1] at hnT
         obtain ⟨tA, tC, rfl, _⟩ := Slc.form (hnT [] (by simp))
         have h3 : Hid (Fr [] u1 uT) := by
           refine Lib.hid ?_
           refine Fr.trans ?_ hTF
           first | exact (Fr.alloc1 _ _).trans (Fr.alloc1 _ _) | exact ((Fr.alloc1 _ _).trans (Fr.alloc1 _ _)).drew
         have hb := h3.out.heap HB4.out.2.1 (by simp)
         have HBT := Lib.hid hb
         have HT3 := h3
         have H3 : Hid (Fr [w.heap.size + 1] u1 uT) := Lib.hid h3.out.nil
         obtain ⟨t0, t1, t2, t3, t4, t5, t6, t7, t8, t9, t10⟩ := c11 hb
         obtain ⟨z0, z1, z2, z3, z4, z5, z6, z7, z8, z9, z10⟩ := f11 hb
         have HNT := Lib.hid fun (S : List Nat) (hS : ∀ x, x ∈ S → x < u1.heap.size) => hnT S (fun x hx => Nat.lt_of_lt_of_le (hS x hx) (Fr.size (And.left (by assumption))))
         clear hnT hTF hb h3))
    go_wp2_with fail
    obtain ⟨Wa, hWa, fa, ba⟩ := st11 HBT.out rfl (.int .i64 1) (.slice tA rT.length tC) nilV nilV nilV (.int .i64 0) (.int .u64 0) (.int .i64 0) (.int .i64 0) (.int .i64 0) (.int .i64 0)
    rw [hWa]
    refine bodyPost_ret (v := .tuple #[.agg #[.int .i64 1, .slice tA rT.length tC, nilV, nilV, nilV, .int .i64 0, .int .u64 0, .int .i64 0, .int .i64 0, .int .i64 0, .int .i64 0], .bool true]) (leaf1_results rfl rfl ba) rfl ⟨_, rfl, ⟨_, _, _, _, rfl, ?_, Slc.nil _ _, Slc.nil _ _, Slc.nil _ _⟩, ?_, ?_⟩
    · have hrT : p.pairs.take c ++ (key, val) :: p.pairs.drop (c + 1) = rT := by rw [HRT.out.2.1]; simp
      show Prs S Wa _ (p.pairs.take c ++ (key, val) :: p.pairs.drop (c + 1))
      rw [hrT]
      exact ((HNT.out ((w.heap.size + 1) :: S) (fun x hx => by
        have h1 := HSZ4.out
        rcases List.mem_cons.1 hx with rfl | hx
        · omega
        · have := HS.out.1 x hx; omega)).kept (fa.mono (by simp))).mono (fun x hx => List.mem_cons_of_mem _ hx)
    · exact (((HF2.out.nil.trans HF4.out).trans HT3.out.nil).mono (S' := (w.heap.size + 1) :: [mb]) (by simp)).trans (fa.mono (by simp)) |>.mono (fun x hx hl => by
        rcases List.mem_cons.1 hx with rfl | hx
        · omega
        · exact hx)
    · exact fa.heap (HT3.out.heap HB4M.out (by simp)) (by rw [List.mem_singleton]; have := HL.out; omega)
end Go.Proofs.YtgpohemcfgepeaaGreat

namespace Go.Proofs.YtgpohemcfgepeaaGreat
open Go.RowKit Go.MapKept
theorem leafc_results {tmps : Array Value} {w : World} {g : Nat} {x0 x1 x2 x3 x4 x5 x6 x7 x8 x9 x10 : Value} {is : Bool} (h4 : tmps.getD 3 undef = .pointer (some ⟨g, 0, none⟩)) (h5 : tmps.getD 4 undef = .bool is)
    (hp : w.heap[g]? = some (.cells #[x0, x1, x2, x3, x4, x5, x6, x7, x8, x9, x10] 90 (0, 0))) :
    (results Tryz.f61 tmps).run Tryz.prog w = .ok (.tuple #[.agg #[x0, x1, x2, x3, x4, x5, x6, x7, x8, x9, x10], .bool is]) w := by
  obtain ⟨q0, q1, q2, q3, q4, q5, q6, q7, q8, q9, q10⟩ := c11 hp
  rw [Array.getD_eq_getD_getElem?] at h4 h5
  simp [results, Tryz.results61, go_sem, h4, h5, q0, q1, q2, q3, q4, q5, q6, q7, q8, q9, q10]
def CutP1 (S : List Nat) (w : World) (key : ByteArray) (p : PageD) (e : Ending) (w2 : World) : Prop := ∃ v', e = .returned (.tuple #[v', .bool (cutLeaf key p).2]) ∧ PageAt S w2 v' (cutLeaf key p).1 ∧ Fr [] w w2
set_option maxRecDepth 100000 in
set_option maxHeartbeats 4000000 in
theorem cut1_k {S : List Nat} {kb : Nat} {key : ByteArray} {p : PageD} {v : Value} (w : World) (hk : w.heap[kb]? = some (.cells #[.string key] 9 (0, 0))) (hS : ∀ x ∈ S, x < w.heap.size) (hp : PageAt S w v p) (D : PgD p 1) :
    Calls Tryz.prog 61 #[v, .pointer (some ⟨kb, 0, none⟩)] w (CutP1 S w key p) := by
  have hk1 : p.kind = 1 := by rw [D.kind]; rfl
  have hpos := D.pos hk1
  have hle := D.pairs
  obtain ⟨_, _, _, _, rfl, hpi⟩ := hp
  obtain ⟨p1, p2, rfl, hp2⟩ := Slc.form hpi.pairs
  obtain ⟨p3, p4, rfl, _⟩ := Slc.form hpi.keys
  obtain ⟨p5, p6, rfl, _⟩ := Slc.form hpi.kids
  obtain ⟨p7, p8, rfl, _⟩ := Slc.form hpi.pages
  obtain ⟨B, off, rfl⟩ : ∃ B off, p1 = some ⟨B, off, none⟩ := by
    rcases hpi.pairs with ⟨_, _, _, h0, _⟩ | ⟨B, off, cap, h, _⟩
    · omega
    · cases h; exact ⟨B, off, rfl⟩
  obtain ⟨W2, hW2, hf2, hs2, b1, b2⟩ := al2 w (.cells #[.int .i64 p.kind, .slice (some ⟨B, off, none⟩) p.pairs.length p2, .slice p3 p.keys.length p4, .slice p5 p.kids.length p6, .slice p7 p.pages.length p8, .int .i64 p.next, .int .u64 p.epoch, .int .i64 p.root, .int .i64 p.depth, .int .i64 p.count, .int .i64 p.high] 90) (.cells #[.int .i64 0, .slice none 0 0, .slice none 0 0, .slice none 0 0, .slice none 0 0, .int .i64 0, .int .u64 0, .int .i64 0, .int .i64 0, .int .i64 0, .int .i64 0] 90)
  have HFD := Lib.hid (find_at key W2 (hpi.kept hf2.nil) hle (D.ps hk1))
  unfold pageCells at HFD ⊢
  have hkl : kb < w.heap.size := lt_of_heap hk
  have HL := Lib.hid (And.intro hkl hs2)
  have HP := Lib.hid (And.intro hpos (And.intro hle hp2))
  have HS := Lib.hid hS
  have HPI := Lib.hid ((hpi.more (S' := S ++ [w.heap.size + 1]) (fun x hx => by
    rcases List.mem_append.1 hx with hx | hx
    · exact .inl hx
    · right; rw [List.mem_singleton] at hx; omega)).kept hf2.nil)
  have HB := Lib.hid (And.intro b1 (And.intro b2 (hf2.heap hk (by simp))))
  have HF2 := Lib.hid hf2
  have kc := blk_cell (hf2.heap hk (by simp)) 0
  simp only [List.getElem?_toArray, List.getElem?_cons_zero] at kc
  obtain ⟨q0, q1, q2, q3, q4, q5, q6, q7, q8, q9, q10⟩ := c11 b1
  obtain ⟨c, hc⟩ : ∃ c, findN p.pairs key = c := ⟨_, rfl⟩
  obtain ⟨fb, hfb⟩ : ∃ fb, findB p.pairs key = fb := ⟨_, rfl⟩
  have hcl : c ≤ p.pairs.length := by rw [← hc]; exact findN_le _ _
  have hcb : fb = true → c < p.pairs.length := fun h => by rw [← hc]; exact findB_lt (by rw [hfb]; exact h)
  have HCB := Lib.hid (And.intro hcl hcb)
  have HSL : Hid (cutLeaf key p = if fb = true then (leafPg (p.pairs.take c ++ p.pairs.drop (c + 1)), true) else (p, false)) := Lib.hid (by unfold cutLeaf; rw [hc, hfb])
  rw [hc, hfb] at HFD
  unfold CutP1
  obtain ⟨R, hR⟩ : ∃ R, cutLeaf key p = R := ⟨_, rfl⟩
  rw [hR]
  rw [hR] at HSL
  clear hR
  have hc0 : (0 : Int) ≤ c := by omega
  have hc1 : (c : Int) ≤ 6 := by omega
  clear hk hS hpi D hk1 hpos hle hp2 hf2 hs2 b1 b2 hkl hc hfb hcl hcb
  go_enter Tryz.func61, Tryz.ntmps61
  go_wp2_with fail
  clear hW2
  with_reducible refine HFD.out.mono ?_
  rintro e u1 ⟨rfl, hu1⟩
  clear q0 q1 q2 q3 q4 q5 q6 q7 q8 q9 q10 kc
  cases fb
  · have HR : Hid (R = (p, false)) := Lib.hid (by rw [HSL.out, if_neg (by simp)])
    have hb1 := hu1.heap HB.out.1 (by simp)
    have hb2 := hu1.heap HB.out.2.1 (by simp)
    obtain ⟨q0, q1, q2, q3, q4, q5, q6, q7, q8, q9, q10⟩ := c11 hb1
    obtain ⟨t0, t1, t2, t3, t4, t5, t6, t7, t8, t9, t10⟩ := c11 hb2
    obtain ⟨z0, z1, z2, z3, z4, z5, z6, z7, z8, z9, z10⟩ := f11 hb2
    obtain ⟨Wa, hWa, fa, ba⟩ := st11 hb2 rfl (.int .i64 p.kind) (.slice (some ⟨B, off, none⟩) p.pairs.length p2) (.slice p3 p.keys.length p4) (.slice p5 p.kids.length p6) (.slice p7 p.pages.length p8) (.int .i64 p.next) (.int .u64 p.epoch) (.int .i64 p.root) (.int .i64 p.depth) (.int .i64 p.count) (.int .i64 p.high)
    have HBA := Lib.hid ba
    have hpa := (HPI.out.kept hu1.nil).kept (fa.mono (S' := S ++ [w.heap.size + 1]) (by simp))
    have HPA := Lib.hid (hpa.mono (S' := S) (fun x hx => List.mem_append.2 (.inl hx)))
    have HFA := Lib.hid (((HF2.out.trans hu1).nil.trans fa).drop (fun x hx => by rw [List.mem_singleton] at hx; omega))
    clear hb1 hb2 fa ba hpa hu1
    go_wp2_with fail
    refine bodyPost_ret (v := .tuple #[.agg (pageCells p (.slice (some ⟨B, off, none⟩) p.pairs.length p2) (.slice p3 p.keys.length p4) (.slice p5 p.kids.length p6) (.slice p7 p.pages.length p8)).toArray, .bool false]) (leafc_results rfl rfl HBA.out) rfl ?_
    rw [HR.out]
    exact ⟨_, rfl, ⟨_, _, _, _, rfl, HPA.out⟩, HFA.out⟩
  · have HR : Hid (R = (leafPg (p.pairs.take c ++ p.pairs.drop (c + 1)), true)) := Lib.hid (by rw [HSL.out, if_pos rfl])
    have HTT : Hid (c < p.pairs.length) := Lib.hid (HCB.out.2 rfl)
    obtain ⟨aP, haP⟩ : ∃ a, (if p2 = c + 1 then some (⟨B, off, none⟩ : Addr) else some ⟨B, off + (c + 1) * 2, none⟩) = a := ⟨_, rfl⟩
    have HB4 := Lib.hid (And.intro (hu1.heap HB.out.1 (by simp)) (hu1.heap HB.out.2.1 (by simp)))
    have HPB := Lib.hid ((HPI.out.pairs.kept hu1.nil).mono (S' := [w.heap.size + 1]) (by simp))
    have HSZ4 : Hid (w.heap.size + 1 < u1.heap.size) := Lib.hid (by have := HL.out; have := hu1.size; omega)
    have HF4 := Lib.hid hu1
    have e1 : ((c : Int) + 1).toNat = c + 1 := by omega
    have e2 : (c : Int) + 1 ≤ p.pairs.length := by have := HTT.out; omega
    have e3 : (c : Int) + 1 ≤ p2 := by have := HTT.out; have := HP.out; omega
    have e4 : (0 : Int) ≤ (c : Int) + 1 := by omega
    have e5 : IntKind.i64.wrap ((c : Int) + 1) = (c : Int) + 1 := IntWalk.i64_in _ (by omega)
    clear hu1
    have HX : Hid (∀ w', Fr [w.heap.size + 1] u1 w' → Fr [w.heap.size + 1] u1 w' ∧ w'.cell? ⟨w.heap.size, 1, none⟩ = some (.slice (some ⟨B, off, none⟩) p.pairs.length p2)) := Lib.hid fun w' hq => ⟨hq, (c11 (hq.heap HB4.out.1 (by rw [List.mem_singleton]; omega))).2.1⟩
    have HPA : Hid (∀ w', Fr [w.heap.size + 1] u1 w' → Prs [] w' (.slice (some ⟨B, off, none⟩) c p2) (p.pairs.take c) ∧ Prs [] w' (.slice aP (p.pairs.length - (c + 1)) (p2 - (c + 1))) (p.pairs.drop (c + 1))) := Lib.hid fun w' hq => by
      have h := HPB.out.kept hq
      refine ⟨(Prs.take h HCB.out.1).mono (by simp), ?_⟩
      rw [← haP]
      exact (Prs.dropC h (by have := HTT.out; omega) HP.out.2.2).mono (by simp)
    have HRT0 : Hid (∃ r, [p.pairs.take c, p.pairs.drop (c + 1)].flatten = r ∧ r = p.pairs.take c ++ p.pairs.drop (c + 1) ∧ r.length ≤ 1048576) := Lib.hid ⟨_, rfl, by simp, by have := HP.out; simp; omega⟩
    obtain ⟨rT, hrT⟩ := HRT0.out
    have HRT := Lib.hid hrT
    have a1 : (c : Int) ≤ p.pairs.length := by have := HCB.out; omega
    have a2 : (c : Int) ≤ p2 := by have := HCB.out; have := HP.out; omega
    have a3 : (p.pairs.length : Int) ≤ p2 := by have := HP.out; omega
    clear HRT0 hrT
    go_upto_region 4 with fail
    go_region_held3 (fun w' => Fr [w.heap.size + 1] u1 w' ∧ w'.cell? ⟨w.heap.size, 1, none⟩ = some (.slice (some ⟨B, off, none⟩) p.pairs.length p2))
      (first
      | (refine HX.out _ ?_; simp (maxDischargeDepth := 40) only [fr_dr, fr_al, fr_refl])
      | (refine HX.out _ ?_; simp (maxDischargeDepth := 40) only [fr_sc, H3.out, List.mem_singleton]))
      (first
      | (go_at_call 58
         refine (concatP_k (S := []) (ls := [p.pairs.take c, p.pairs.drop (c + 1)]) _ (rowsP2 (by exact blk_new _ _) (HPA.out _ (And.left (by assumption))).1 (HPA.out _ (And.left (by assumption))).2) (by rw [HRT.out.1]; exact HRT.out.2.2) (by simp)).mono ?_
         rintro e uT ⟨vT, rfl, hnT, hTF⟩
         rw [HRT.out.1] at hnT
         obtain ⟨tA, tC, rfl, _⟩ := Slc.form (hnT [] (by simp))
         have h3 : Hid (Fr [] u1 uT) := by
           refine Lib.hid ?_
           refine Fr.trans ?_ hTF
           first | exact Fr.alloc1 _ _ | exact (Fr.alloc1 _ _).drew
         have hb := h3.out.heap HB4.out.2 (by simp)
         have HBT := Lib.hid hb
         have HT3 := h3
         have H3 : Hid (Fr [w.heap.size + 1] u1 uT) := Lib.hid h3.out.nil
         obtain ⟨t0, t1, t2, t3, t4, t5, t6, t7, t8, t9, t10⟩ := c11 hb
         obtain ⟨z0, z1, z2, z3, z4, z5, z6, z7, z8, z9, z10⟩ := f11 hb
         have HNT := Lib.hid fun (S : List Nat) (hS : ∀ x, x ∈ S → x < u1.heap.size) => hnT S (fun x hx => Nat.lt_of_lt_of_le (hS x hx) (Fr.size (And.left (by assumption))))
         clear hnT hTF hb h3))
    go_wp2_with fail
    obtain ⟨Wa, hWa, fa, ba⟩ := st11 HBT.out rfl (.int .i64 1) (.slice tA rT.length tC) nilV nilV nilV (.int .i64 0) (.int .u64 0) (.int .i64 0) (.int .i64 0) (.int .i64 0) (.int .i64 0)
    rw [hWa]
    refine bodyPost_ret (v := .tuple #[.agg #[.int .i64 1, .slice tA rT.length tC, nilV, nilV, nilV, .int .i64 0, .int .u64 0, .int .i64 0, .int .i64 0, .int .i64 0, .int .i64 0], .bool true]) (leafc_results rfl rfl ba) rfl ?_
    rw [HR.out, ← HRT.out.2.1]
    exact ⟨_, rfl, ⟨_, _, _, _, rfl, ((HNT.out ((w.heap.size + 1) :: S) (fun x hx => by
        have h1 := HSZ4.out
        rcases List.mem_cons.1 hx with rfl | hx
        · omega
        · have := HS.out x hx; omega)).kept (fa.mono (by simp))).mono (fun x hx => List.mem_cons_of_mem _ hx), Slc.nil _ _, Slc.nil _ _, Slc.nil _ _⟩, (((HF2.out.trans HF4.out).trans HT3.out).nil.trans fa).drop (fun x hx => by rw [List.mem_singleton] at hx; omega)⟩
end Go.Proofs.YtgpohemcfgepeaaGreat

namespace Go.Proofs.YtgpohemcfgepeaaGreat
open Go.RowKit Go.MapKept
def GetP (w : World) (tb sb b ml mc fm : Nat) (t : TrD) (R : ByteArray × Bool × Int) (e : Ending) (w' : World) : Prop := e = .returned (.tuple #[.string R.1, .bool R.2.1, .int .i64 R.2.2]) ∧ TrR w tb sb b ml mc fm (t.end R.2.2) w'
theorem get_out {tmps : Array Value} {w W : World} {tb sb b ml mc fm eb : Nat} {t : TrD} {R : ByteArray × Bool × Int} {rv : ByteArray} {ri : Bool} {re : Int} (hR : R = (rv, ri, re)) (h4 : tmps.getD 4 undef = .string rv) (h5 : tmps.getD 5 undef = .bool ri) (h6 : tmps.getD 6 undef = .pointer (some ⟨eb, 0, none⟩))
    (hb : W.heap[eb]? = some (.cells #[.int .i64 re] 39 (0, 0))) (ht : TrAt W tb sb b ml mc fm t) (hf : Fr [] w W) (hs : sb < w.heap.size) (hn : eb ∉ [tb, sb, fm, b, ml, mc]) :
    bodyPostD Tryz.prog Tryz.f26 (GetP w tb sb b ml mc fm t R) Exit.ret { tmps := tmps, defers := [{ target := .fn (Fn.func 53) #[], args := #[.pointer (some ⟨tb, 0, none⟩), .pointer (some ⟨eb, 0, none⟩)] }] } W := by
  subst hR
  refine leaves_cons (f := 53) (args := #[.pointer (some ⟨tb, 0, none⟩), .pointer (some ⟨eb, 0, none⟩)]) (by simp) (by simp [go_sem]) ?_
  refine (tend_k W ht (blk_cell hb 0)).mono ?_
  rintro e u' w2 ⟨rfl, rfl, fm2, r1, r2, r3⟩
  exact ⟨_, get_result h4 h5 h6 (blk_cell (r2.heap hb hn) 0), rfl, TrR.trans hf.nil ⟨.inl rfl, .ofFr hf hs (by simp)⟩ ⟨fm2, r1, r2, r3⟩⟩
set_option maxRecDepth 100000 in
set_option maxHeartbeats 4000000 in
theorem get_k {tb sb b ml mc fm : Nat} {t : TrD} (key : ByteArray) (w : World) (h : TrAt w tb sb b ml mc fm t) (hd0 : 0 ≤ t.depth) (hd1 : t.depth ≤ 1000) :
    Calls Tryz.prog 26 #[.pointer (some ⟨tb, 0, none⟩), .string key] w (GetP w tb sb b ml mc fm t (getK t.st key t.depth.toNat t.root)) := by
  obtain ⟨W1, hW1, hf1, hs1, b1⟩ := al1 w (.cells #[.int .i64 0] 39)
  have ht1 := h.kept hf1
  have HT := Lib.hid h
  have HT1 := Lib.hid ht1
  have HNE := Lib.hid h.ne
  have HF := Lib.hid hf1
  have HEB : Hid (w.heap.size ∉ [sb, fm, b, ml, mc] ∧ w.heap.size ≠ tb) := Lib.hid ⟨h.sto.newN (Nat.le_refl _), by have := h.lt; omega⟩
  have HAP : Hid (StoAp W1 sb [w.heap.size]) := Lib.hid ((h.sto.apNew (Nat.le_refl _)).kept hf1 h.sto.lt.1 (by simp))
  have HB := Lib.hid b1
  have HSZ := Lib.hid hs1
  have c0 : W1.cell? ⟨tb, 0, none⟩ = some (.pointer (some ⟨sb, 0, none⟩)) := blk_cell ht1.blk 0
  have c1 : W1.cell? ⟨tb, 1, none⟩ = some (.int .i64 t.root) := blk_cell ht1.blk 1
  have c2 : W1.cell? ⟨tb, 2, none⟩ = some (.int .i64 t.depth) := blk_cell ht1.blk 2
  obtain ⟨D, hD⟩ : ∃ D : Nat, t.depth = D := ⟨t.depth.toNat, by omega⟩
  have hDI : (D : Int) ≤ 1000 := by omega
  have HD := Lib.hid hD
  obtain ⟨R, hR⟩ : ∃ R, getK t.st key t.depth.toNat t.root = R := ⟨_, rfl⟩
  have HR : Hid (getK t.st key D t.root = R) := Lib.hid (by rw [← hR, hD]; rfl)
  rw [hR]
  rw [hD] at c2
  obtain ⟨rt, hrt⟩ : ∃ rt, t.root = rt := ⟨_, rfl⟩
  rw [hrt] at c1 HR
  have HOUT : Hid (∀ (wr : World) (x : Int) (W : World), Fr [] W1 wr → Fr [w.heap.size] wr W → W.heap[w.heap.size]? = some (.cells #[.int .i64 x] 39 (0, 0)) → TrAt W tb sb b ml mc fm t ∧ Fr [] w W ∧ sb < w.heap.size ∧ w.heap.size ∉ [tb, sb, fm, b, ml, mc]) := Lib.hid fun wr x W hq hw hb =>
    ⟨(ht1.kept hq).beside (HAP.out.kept hq ht1.sto.lt.1 (by simp)) (noByte_err (hq.heap b1 (by simp))) HEB.out.1 (fun e => HEB.out.2 e.symm) hw, ((hf1.trans hq).nil.trans hw).drop (fun x hx => by rw [List.mem_singleton] at hx; omega), h.sto.lt.1, by rw [List.mem_cons, not_or]; exact ⟨HEB.out.2, HEB.out.1⟩⟩
  clear h hd0 hd1 hf1 hs1 b1 ht1 hD hR hrt
  go_enter_defers Tryz.func26, Tryz.ntmps26
  go_wp2_with fail
  clear hW1
  go_loopw [4, 5, 7, 24] (fun _ _ n i wr => ∃ (k : Nat) (m : Int), k ≤ D ∧ i = .int .i64 k ∧ n = .int .i64 m ∧ getK t.st key (D - k) m = R ∧ Fr [] W1 wr) (fun _ _ _ i _ => D - (intOf i).toNat)
  case atStart => exact ⟨0, rt, by omega, rfl, rfl, HR.out, Fr.refl _ _⟩
  case round =>
    obtain ⟨k, m, hk, rfl, rfl, hg, hfr⟩ := hrel
    have hb1 := hfr.heap HB.out (by simp)
    have e0 := blk_cell hb1 0
    have e1 := blk_free hb1 0
    simp only [List.getElem?_toArray, List.getElem?_cons_zero] at e0
    have d0 := hfr.cellSome c0 (by simp)
    have d2 := hfr.cellSome c2 (by simp)
    have HFR := Lib.hid hfr
    have HGK := Lib.hid hg
    have HBE := Lib.hid hb1
    clear hfr hg hb1
    by_cases hlt : k < D
    · have hkI : (k : Int) < D := by omega
      have hw64 : IntKind.i64.wrap ((D : Int) - k) = (D : Int) - k := IntWalk.i64_in _ (by omega)
      obtain ⟨dd, hdd⟩ : ∃ dd : Int, (D : Int) - k = dd := ⟨_, rfl⟩
      have HTP := Lib.hid (tpage_k m dd wr (HFR.out.cellSome c0 (by simp)) (HT1.out.sto.kept HFR.out))
      obtain ⟨j, hj⟩ : ∃ j, D - k = j + 1 := ⟨D - k - 1, by omega⟩
      have HDD : Hid (dd = ((j + 1 : Nat) : Int) ∧ D - (k + 1) = j) := Lib.hid (by omega)
      obtain ⟨⟨p, ep⟩, hR⟩ : ∃ x, pageK t.st m dd = x := ⟨_, rfl⟩
      have HPK : Hid (pageK t.st m ((j + 1 : Nat) : Int) = (p, ep)) := Lib.hid (by rw [← HDD.out.1]; exact hR)
      have HPD : Hid (ep = 0 → PgD p dd) := Lib.hid (fun h0 => by
        have := pageK_D (T := t.st) (n := m) (d := dd) (by rw [hR]; exact h0)
        rw [hR] at this
        exact this)
      have HRW : Hid (R = if ep ≠ 0 then (⟨#[]⟩, false, ep) else if p.kind = 2 then getK t.st key j (p.kids.getD (kidN p.keys key) 0) else if findB p.pairs key = true then (valAt p.pairs (findN p.pairs key), true, 0) else getK t.st key j m) := Lib.hid (by
        rw [← HGK.out, hj]
        conv => lhs; unfold getK
        rw [HPK.out])
      rw [hR] at HTP
      unfold PageOut pageCells at HTP
      dsimp only at HTP
      clear hR hj
      go_wp2_with fail
      with_reducible refine HTP.out.mono ?_
      rintro e u1 ⟨pp, pk, pd, pg, rfl, hpi, hu1⟩
      have hpi := hpi [] (by simp)
      obtain ⟨p1, p2, rfl, hp2⟩ := Slc.form hpi.pairs
      obtain ⟨p3, p4, rfl, _⟩ := Slc.form hpi.keys
      obtain ⟨p5, p6, rfl, hp6⟩ := Slc.form hpi.kids
      obtain ⟨p7, p8, rfl, _⟩ := Slc.form hpi.pages
      obtain ⟨W5, hW5, hf5, hs5, b5⟩ := al1 u1 (.cells (pageCells p (.slice p1 p.pairs.length p2) (.slice p3 p.keys.length p4) (.slice p5 p.kids.length p6) (.slice p7 p.pages.length p8)).toArray 90)
      have hq5 := (HFR.out.trans hu1).trans hf5
      have HQ5 := Lib.hid hq5
      have hb5 := hq5.heap HB.out (by simp)
      have e2 := blk_cell hb5 0
      have e3 := blk_free hb5 0
      simp only [List.getElem?_toArray, List.getElem?_cons_zero] at e2
      have HBE5 := Lib.hid hb5
      have HPI := Lib.hid (hpi.kept hf5)
      have HB9 := Lib.hid b5
      unfold pageCells at hW5 HB9 b5
      clear hpi hu1 hf5 hs5 hq5 hb5 HTP e0 e1 d0
      by_cases hep : ep = 0
      · subst hep
        have HD0 := Lib.hid (HPD.out rfl)
        obtain ⟨q0, q1, q2, q3, q4, q5, q6, q7, q8, q9, q10⟩ := c11 b5
        clear b5
        by_cases hkd : p.kind = 2
        · have bk : (p.kind == 2) = true := by simpa using hkd
          have HRX : Hid (R = getK t.st key j (p.kids.getD (kidN p.keys key) 0)) := Lib.hid (by rw [HRW.out, if_neg (by simp), if_pos hkd])
          have HKK : Hid (p.kids.length = p.keys.length + 1) := Lib.hid (by
            rcases HD0.out.f.form with h | h
            · omega
            · exact h.2.2)
          obtain ⟨i, hi⟩ : ∃ i, kidN p.keys key = i := ⟨_, rfl⟩
          rw [hi] at HRX
          have hil : i ≤ p.keys.length := by rw [← hi]; exact kidN_le _ _
          obtain ⟨Bk, ok, rfl⟩ : ∃ B off, p5 = some ⟨B, off, none⟩ := by
            rcases HPI.out.kids with ⟨_, _, _, h0, _⟩ | ⟨B, off, cap, h, _⟩
            · have := HKK.out; omega
            · cases h; exact ⟨B, off, rfl⟩
          obtain ⟨kd, hkd2⟩ : ∃ kd, p.kids[i]'(by have := HKK.out; omega) = kd := ⟨_, rfl⟩
          have HGD : Hid (p.kids.getD i 0 = kd) := Lib.hid (by rw [List.getD_eq_getElem?_getD, List.getElem?_eq_getElem (by have := HKK.out; omega), hkd2]; rfl)
          have HX : Hid (∀ w', Fr [] W5 w' → Fr [] W5 w' ∧ w'.cell? ⟨Bk, ok + i, none⟩ = some (.int .i64 kd) ∧ w'.cell? ⟨u1.heap.size, 0, none⟩ = some (.int .i64 p.kind) ∧ w'.cell? ⟨u1.heap.size, 1, none⟩ = some (.slice p1 p.pairs.length p2) ∧ w'.cell? ⟨u1.heap.size, 2, none⟩ = some (.slice p3 p.keys.length p4) ∧ w'.cell? ⟨u1.heap.size, 3, none⟩ = some (.slice (some ⟨Bk, ok, none⟩) p.kids.length p6) ∧ w'.cell? ⟨u1.heap.size, 4, none⟩ = some (.slice p7 p.pages.length p8) ∧ w'.cell? ⟨u1.heap.size, 5, none⟩ = some (.int .i64 p.next) ∧ w'.cell? ⟨u1.heap.size, 6, none⟩ = some (.int .u64 p.epoch) ∧ w'.cell? ⟨u1.heap.size, 7, none⟩ = some (.int .i64 p.root) ∧ w'.cell? ⟨u1.heap.size, 8, none⟩ = some (.int .i64 p.depth) ∧ w'.cell? ⟨u1.heap.size, 9, none⟩ = some (.int .i64 p.count) ∧ w'.cell? ⟨u1.heap.size, 10, none⟩ = some (.int .i64 p.high)) := Lib.hid fun w' hq => ⟨hq, by have := Ints.at (HPI.out.kids.kept hq) (i := i) (by have := HKK.out; omega); rw [hkd2] at this; exact this, c11 (hq.heap HB9.out (by simp))⟩
          have HKD := Lib.hid fun (w' : World) (hq : Fr [] W5 w') => kid_k (S := []) (c := i) key w' (HPI.out.kept hq) (by have := HD0.out.keys; omega) hil (by rw [← hi]; exact kidN_at (HD0.out.ks hkd))
          unfold pageCells at HKD
          have hiI : (i : Int) < p.kids.length := by have := HKK.out; omega
          clear hi hil hkd2 hkd
          go_upto_region 12 with fail
          clear hW5 q0 q1 q2 q3 q4 q5 q6 q7 q8 q9 q10
          go_region_held3 (fun w' => Fr [] W5 w' ∧ w'.cell? ⟨Bk, ok + i, none⟩ = some (.int .i64 kd) ∧ w'.cell? ⟨u1.heap.size, 0, none⟩ = some (.int .i64 p.kind) ∧ w'.cell? ⟨u1.heap.size, 1, none⟩ = some (.slice p1 p.pairs.length p2) ∧ w'.cell? ⟨u1.heap.size, 2, none⟩ = some (.slice p3 p.keys.length p4) ∧ w'.cell? ⟨u1.heap.size, 3, none⟩ = some (.slice (some ⟨Bk, ok, none⟩) p.kids.length p6) ∧ w'.cell? ⟨u1.heap.size, 4, none⟩ = some (.slice p7 p.pages.length p8) ∧ w'.cell? ⟨u1.heap.size, 5, none⟩ = some (.int .i64 p.next) ∧ w'.cell? ⟨u1.heap.size, 6, none⟩ = some (.int .u64 p.epoch) ∧ w'.cell? ⟨u1.heap.size, 7, none⟩ = some (.int .i64 p.root) ∧ w'.cell? ⟨u1.heap.size, 8, none⟩ = some (.int .i64 p.depth) ∧ w'.cell? ⟨u1.heap.size, 9, none⟩ = some (.int .i64 p.count) ∧ w'.cell? ⟨u1.heap.size, 10, none⟩ = some (.int .i64 p.high))
            (first
            | (refine HX.out _ ?_; simp (maxDischargeDepth := 40) only [fr_dr, fr_refl])
            | (refine HX.out _ ?_; simp (maxDischargeDepth := 40) only [H3.out]))
            (first
            | (go_at_call 64
               refine (HKD.out _ (And.left (by assumption))).mono ?_
               rintro e u ⟨rfl, hq⟩
               have H3 : Hid (Fr [] W5 u) := by
                 refine Lib.hid (Fr.trans (And.left (by assumption)) hq)
               clear hq))
          go_wp2_with fail
          go_roundw
          case rel => exact ⟨k + 1, kd, by omega, by go_num, rfl, by rw [HDD.out.2, HRX.out, HGD.out], HQ5.out.trans H3.out⟩
          case measure => simp [intOf]; omega
        · have bk : (p.kind == 2) = false := by simpa using hkd
          have hk1 : p.kind = 1 := by rcases HD0.out.kinds with h | h; exact h; exact absurd h hkd
          have HRX : Hid (R = if findB p.pairs key = true then (valAt p.pairs (findN p.pairs key), true, 0) else getK t.st key j m) := Lib.hid (by rw [HRW.out, if_neg (by simp), if_neg hkd])
          have HFD := Lib.hid (find_at key W5 HPI.out HD0.out.pairs (HD0.out.ps hk1))
          obtain ⟨B, off, rfl⟩ : ∃ B off, p1 = some ⟨B, off, none⟩ := by
            have hpos := HD0.out.pos hk1
            rcases HPI.out.pairs with ⟨_, _, _, h0, _⟩ | ⟨B, off, cap, h, _⟩
            · omega
            · cases h; exact ⟨B, off, rfl⟩
          obtain ⟨c, hc⟩ : ∃ c, findN p.pairs key = c := ⟨_, rfl⟩
          obtain ⟨fb, hfb⟩ : ∃ fb, findB p.pairs key = fb := ⟨_, rfl⟩
          have HCB : Hid (fb = true → c < p.pairs.length) := Lib.hid (fun h => by rw [← hc]; exact findB_lt (by rw [hfb]; exact h))
          rw [hc, hfb] at HFD HRX
          unfold pageCells at HFD
          clear hc hfb hk1 hkd
          go_wp2_with fail
          with_reducible refine HFD.out.mono ?_
          rintro e u2 ⟨rfl, hu2⟩
          have hb2 := hu2.heap HBE5.out (by simp)
          have HU2 := Lib.hid hu2
          have HB2 := Lib.hid hb2
          have r1 := (c11 (hu2.heap HB9.out (by simp))).2.1
          have g0 := blk_cell hb2 0
          have g1 := blk_free hb2 0
          simp only [List.getElem?_toArray, List.getElem?_cons_zero] at g0
          clear hu2 hb2 hW5 q0 q1 q2 q3 q4 q5 q6 q7 q8 q9 q10 e2 e3
          cases fb
          · have HRY : Hid (R = getK t.st key j m) := Lib.hid (by rw [HRX.out, if_neg (by simp)])
            go_wp2_with fail
            go_roundw
            case rel => exact ⟨k + 1, m, by omega, by go_num, rfl, by rw [HDD.out.2, HRY.out], HQ5.out.trans HU2.out⟩
            case measure => simp [intOf]; omega
          · have hcl := HCB.out rfl
            have hval := (Prs.at (HPI.out.pairs.kept HU2.out) hcl).2
            have hcI : (c : Int) < p.pairs.length := by omega
            have hc0 : (0 : Int) ≤ c := by omega
            have HRY : Hid (R = (p.pairs[c].2, true, 0)) := Lib.hid (by rw [HRX.out, if_pos rfl]; unfold valAt; rw [List.getElem?_eq_getElem hcl])
            obtain ⟨vv, hvv⟩ : ∃ vv, p.pairs[c].2 = vv := ⟨_, rfl⟩
            rw [hvv] at hval HRY
            obtain ⟨W6, hW6, hf6, hs6, b6⟩ := st1 HB2.out 0 (.int .i64 0)
            have HO := Lib.hid (HOUT.out u2 0 W6 (HQ5.out.trans HU2.out) hf6 b6)
            have HB6 := Lib.hid b6
            clear hf6 hs6 b6 hvv hcl
            go_wp2_with fail
            exact get_out HRY.out rfl rfl rfl HB6.out HO.out.1 HO.out.2.1 HO.out.2.2.1 HO.out.2.2.2
      · have HRX : Hid (R = (⟨#[]⟩, false, ep)) := Lib.hid (by rw [HRW.out, if_pos hep])
        have be : (ep != 0) = true := by simpa using hep
        obtain ⟨W6, hW6, hf6, hs6, b6⟩ := st1 HBE5.out 0 (.int .i64 ep)
        have HO := Lib.hid (HOUT.out W5 ep W6 HQ5.out hf6 b6)
        have HB6 := Lib.hid b6
        clear hep b5 hf6 hs6 b6
        go_wp2_with fail
        exact get_out HRX.out rfl rfl rfl HB6.out HO.out.1 HO.out.2.1 HO.out.2.2.1 HO.out.2.2.2
    · obtain rfl : k = D := by omega
      have HRW : Hid (R = (⟨#[]⟩, false, 0)) := Lib.hid (by rw [← HGK.out, Nat.sub_self]; rfl)
      obtain ⟨W5, hW5, hf5, hs5, b5⟩ := st1 HBE.out 0 (.int .i64 0)
      have HO := Lib.hid (HOUT.out wr 0 W5 HFR.out hf5 b5)
      have HB5 := Lib.hid b5
      clear hf5 hs5 b5
      go_wp2_with fail
      exact get_out HRW.out rfl rfl rfl HB5.out HO.out.1 HO.out.2.1 HO.out.2.2.1 HO.out.2.2.2
end Go.Proofs.YtgpohemcfgepeaaGreat
