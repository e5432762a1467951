/- a part. -/
import Derived.Test.YtgpohemcfgepeaaGreatGC
import Derived.Test.YtgpohemcfgepeaaGreatG4
namespace Go.Proofs.YtgpohemcfgepeaaGreat
open Go.RowKit Go.MapKept
theorem u8I_toNat (x : Int) : ((u8I x).toNat : Int) = x % 256 := by
  unfold u8I
  have h : (x % 256).toNat < 256 := by omega
  rw [UInt8.toNat_ofNat_of_lt' h]
  omega
theorem two16_u8I {x : Int} (h0 : 0 ≤ x) (h1 : x < 65536) : two16 (u8I (x / 256)) (u8I x) = x := by
  unfold two16
  rw [u8I_toNat, u8I_toNat]
  omega
theorem twoL_cons (x : Int) (l : List Int) : twoL (x :: l) = u8I (x / 256) :: u8I x :: twoL l := by
  unfold twoL; rw [List.flatMap_cons]; rfl
theorem twoL_append (a b : List Int) : twoL (a ++ b) = twoL a ++ twoL b := by unfold twoL; rw [List.flatMap_append]
theorem twoP_twoL {x : Int} (h0 : 0 ≤ x) (h1 : x < 65536) (t : List Int) (l : List UInt8) : twoP (twoL (x :: t) ++ l) = some (x, twoL t ++ l) := by
  rw [twoL_cons]
  show some (two16 (u8I (x / 256)) (u8I x), twoL t ++ l) = _
  rw [two16_u8I h0 h1]
theorem textP_textL {s : ByteArray} (h : s.size ≤ 255) (l : List UInt8) : textP (textL s ++ l) = some (s, l) := by
  have e1 : ((u8I (s.size : Int)).toNat : Int) = s.size := by rw [u8I_toNat]; omega
  have e2 : (u8I (s.size : Int)).toNat = s.size := by omega
  have e3 : textL s ++ l = u8I s.size :: (strL s ++ l) := by unfold textL; simp
  rw [e3]
  show (if (u8I (s.size : Int)).toNat ≤ (strL s ++ l).length then _ else none) = _
  have hl : (strL s ++ l).length = s.size + l.length := by rw [List.length_append, strL_length]
  rw [if_pos (by rw [e2, hl]; omega), e2]
  have ht : (strL s ++ l).take s.size = strL s := by
    have := strL_length s
    rw [List.take_append_of_le_length (by omega), List.take_of_length_le (by omega)]
  have hd : (strL s ++ l).drop s.size = l := by
    have := strL_length s
    rw [List.drop_append_of_le_length (by omega), List.drop_of_length_le (by omega), List.nil_append]
  rw [ht, hd]
  rfl
theorem pairsP_pairsL : ∀ (l : List PairD) (acc : List PairD) (r : List UInt8), acc.length + l.length ≤ 6 → (∀ x ∈ l, x.1.size ≤ 255 ∧ x.2.size ≤ 255) → pairsP l.length acc (pairsL l ++ r) = some (acc ++ l)
  | [], acc, r, _, _ => by simp [pairsP]
  | (k, v) :: l, acc, r, h, hs => by
    have h1 := hs (k, v) (by simp)
    rw [List.length_cons] at h ⊢
    have e : pairsL ((k, v) :: l) ++ r = textL k ++ (textL v ++ (pairsL l ++ r)) := by unfold pairsL; rw [List.flatMap_cons]; simp
    rw [e]
    unfold pairsP
    rw [if_pos (by omega), textP_textL h1.1]
    simp only
    rw [textP_textL h1.2]
    simp only
    rw [pairsP_pairsL l (acc ++ [(k, v)]) r (by simp; omega) (fun x hx => hs x (by simp [hx]))]
    simp
theorem intsP_twoL : ∀ (l acc : List Int) (r : List UInt8), (∀ x ∈ l, 0 ≤ x ∧ x < 65536) → intsP l.length acc (twoL l ++ r) = some (acc ++ l, r)
  | [], acc, r, _ => by simp [intsP, twoL]
  | x :: l, acc, r, hs => by
    have h1 := hs x (by simp)
    rw [List.length_cons, intsP_yes (twoP_twoL h1.1 h1.2 l r), intsP_twoL l (acc ++ [x]) r (fun y hy => hs y (by simp [hy]))]
    simp
theorem keysP_keysL : ∀ (ks : List ByteArray) (gs : List Int) (aK : List ByteArray) (aG : List Int) (r : List UInt8), ks.length = gs.length → aK.length + ks.length ≤ 12 → (∀ x ∈ ks, x.size ≤ 255) → (∀ x ∈ gs, 0 ≤ x ∧ x < 65536) →
    keysP ks.length aK aG (((ks.zip gs).flatMap fun x => textL x.1 ++ twoL [x.2]) ++ r) = some (aK ++ ks, aG ++ gs)
  | [], [], aK, aG, r, _, _, _, _ => by simp [keysP]
  | k :: ks, g :: gs, aK, aG, r, hl, h12, hk, hg => by
    have h1 := hk k (by simp)
    have h2 := hg g (by simp)
    rw [List.length_cons] at h12 ⊢
    have e : (((k :: ks).zip (g :: gs)).flatMap fun x => textL x.1 ++ twoL [x.2]) ++ r = textL k ++ (twoL [g] ++ (((ks.zip gs).flatMap fun x => textL x.1 ++ twoL [x.2]) ++ r)) := by
      rw [List.zip_cons_cons, List.flatMap_cons]; simp
    rw [e, keysP_yes (by omega) (textP_textL h1 _) (twoP_twoL h2.1 h2.2 [] _)]
    have e2 : twoL [] ++ (((ks.zip gs).flatMap fun x => textL x.1 ++ twoL [x.2]) ++ r) = ((ks.zip gs).flatMap fun x => textL x.1 ++ twoL [x.2]) ++ r := rfl
    rw [e2, keysP_keysL ks gs (aK ++ [k]) (aG ++ [g]) r (by simpa using hl) (by simp; omega) (fun x hx => hk x (by simp [hx])) (fun x hx => hg x (by simp [hx]))]
    simp
theorem superP_superL {ep root depth count high next : Int} (r : List UInt8) (h1 : 0 ≤ root ∧ root < 65536) (h2 : 0 ≤ depth ∧ depth < 65536) (h3 : 0 ≤ count ∧ count < 4294967296) (h4 : 0 ≤ high ∧ high < 65536) (h5 : 0 ≤ next ∧ next < 65536) :
    superP ep (twoL (superPg ep root depth count high next).superL ++ r) = some (superPg ep root depth count high next) := by
  have hm : bits .and .i64 count 65535 = count % 65536 := by
    have := bits_mask .i64 63 (by decide) (fun n h0 h1 => IntWalk.i64_in n (by omega)) 16 (by decide) count (by omega) (by omega)
    simpa using this
  have e : (superPg ep root depth count high next).superL = [root, depth, count / 65536, count % 65536, high, next] := by
    show [root, depth, count / 65536, bits .and .i64 count 65535, high, next] = _
    rw [hm]
  rw [e]
  unfold superP
  rw [twoP_twoL h1.1 h1.2]
  simp only
  unfold superE0
  rw [twoP_twoL h2.1 h2.2]
  simp only
  unfold superE1
  rw [twoP_twoL (by omega) (by omega)]
  simp only
  unfold superE1b
  rw [twoP_twoL (by omega) (by omega)]
  simp only
  unfold superE2
  rw [twoP_twoL h4.1 h4.2]
  simp only
  unfold superE3
  rw [twoP_twoL h5.1 h5.2]
  have hc : count / 65536 * 65536 + count % 65536 = count := by omega
  simp only [hc]
  rfl
theorem beI_eightL {n : Int} (h0 : 0 ≤ n) (h1 : n < 9223372036854775808) : beI (eightL n) = n := by
  have hw : wrap64 n = n := by unfold wrap64; omega
  have e : eightL n = [u8I (n / 281474976710656 / 256), u8I (n / 281474976710656), u8I (n / 4294967296 / 256), u8I (n / 4294967296), u8I (n / 65536 / 256), u8I (n / 65536), u8I (n / 256), u8I n] := by
    unfold eightL
    rw [hw]
    rfl
  rw [e]
  unfold beI
  simp only [List.foldl_cons, List.foldl_nil, u8I_toNat]
  omega
theorem plain_front {tx : List UInt8} (h : tx.length ≤ 1016) : ∃ r, plainL tx = tx ++ r := by
  unfold plainL spl
  refine ⟨(List.replicate (1024 - tx.length) 0).take (1016 - tx.length) ++ eightL (crcI ((pad tx).take 1016)) ++ (pad tx).drop (1016 + (eightL (crcI ((pad tx).take 1016))).length), ?_⟩
  have e : (pad tx).take 1016 = tx ++ (List.replicate (1024 - tx.length) 0).take (1016 - tx.length) := by
    unfold pad
    rw [List.take_append, List.take_of_length_le h]
  rw [e]
  simp only [List.append_assoc]
theorem text_le {p : PageD} {s : Int} (h : p.okAt s = true) : (p.text s).length ≤ 1003 := by
  have hc : p.check = true := by unfold PageD.okAt at h; simp only [Bool.and_eq_true] at h; exact h.1
  have hb := body_length hc
  unfold PageD.text; rw [List.length_append, List.length_append, twoL_length]; simp; omega
theorem dec_plain {p : PageD} {s : Int} (h : p.okAt s = true) (hk : p.kind ≠ 4) (h0 : 0 ≤ p.kind) (h1 : p.kind < 256) (hs : s ≠ 0 ∧ s ≠ 1) (hp : ∀ r, pageP 0 p.kind (p.body ++ r) = some p) : decP s (p.encL s) = some p := by
  unfold decP
  rw [if_pos (encL_length h)]
  have he : p.encL s = plainL (p.text s) := by unfold PageD.encL; rw [if_neg hk]
  obtain ⟨r, hr⟩ := plain_front (tx := p.text s) (by have := text_le h; omega)
  have hraw : rawP s (p.encL s) = some p := by
    have hn : ¬ (s = 0 ∨ s = 1) := by omega
    unfold rawP epOf restOf
    rw [if_neg hn, if_neg hn, he, hr]
    have e : p.text s ++ r = u8I p.kind :: u8I (s / 256) :: u8I s :: (p.body ++ r) := by
      unfold PageD.text
      simp [twoL]
    rw [e]
    show pageP 0 ((u8I p.kind).toNat : Int) (p.body ++ r) = _
    rw [u8I_toNat, Int.emod_eq_of_lt h0 h1]
    exact hp r
  rw [hraw]
  simp only
  rw [if_pos (by unfold goodP; rw [h]; simp)]
theorem dec_leaf {l : List PairD} {s : Int} (h : (pgLeaf 0 l).okAt s = true) : decP s ((pgLeaf 0 l).encL s) = some (pgLeaf 0 l) := by
  have hc : (pgLeaf 0 l).check = true := by unfold PageD.okAt at h; simp only [Bool.and_eq_true] at h; exact h.1
  have hl := leaf_sizes (check_leaf hc rfl)
  have hs : placeB s = true := by unfold PageD.okAt at h; simp only [Bool.and_eq_true] at h; exact h.2
  have hs2 : 2 ≤ s := by unfold placeB at hs; simp only [Bool.and_eq_true, decide_eq_true_eq] at hs; exact hs.1
  refine dec_plain h (by show (1 : Int) ≠ 4; decide) (by show (0 : Int) ≤ 1; decide) (by show (1 : Int) < 256; decide) (by omega) (fun r => ?_)
  show (match twoP ((twoL [(l.length : Int)] ++ pairsL l) ++ r) with | some (n, l') => (pairsP n.toNat [] l').map (pgLeaf 0) | none => none) = _
  have h6 : l.length ≤ 6 := hl.1
  rw [List.append_assoc, twoP_twoL (by omega) (by omega)]
  simp only [Int.toNat_natCast]
  have e : twoL [] ++ (pairsL l ++ r) = pairsL l ++ r := rfl
  rw [e, pairsP_pairsL l [] r (by simpa using h6) (fun x hx => by have := hl.2 x hx; omega)]
  rfl
theorem okAt_parts {p : PageD} {s : Int} (h : p.okAt s = true) : p.check = true ∧ (p.kind = 4 → s = 0 ∨ s = 1) ∧ (p.kind ≠ 4 → placeB s = true) := by
  unfold PageD.okAt at h
  simp only [Bool.and_eq_true] at h
  refine ⟨h.1, fun k => ?_, fun k => ?_⟩
  · have h2 := h.2
    rw [if_pos k] at h2
    simpa using h2
  · have h2 := h.2
    rw [if_neg k] at h2
    exact h2
theorem placeB_iff {n : Int} : placeB n = true ↔ 2 ≤ n ∧ n < 4096 := by unfold placeB; simp
theorem nextB_iff {n : Int} : nextB n = true ↔ n = 0 ∨ (2 ≤ n ∧ n < 4096) := by unfold nextB; simp [placeB_iff]
theorem dec_free {l : List Int} {nx s : Int} (h : (pgFree 0 l nx).okAt s = true) : decP s ((pgFree 0 l nx).encL s) = some (pgFree 0 l nx) := by
  obtain ⟨hc, _, hs⟩ := okAt_parts h
  have hl := check_free hc rfl
  have hs2 := placeB_iff.1 (hs (by show (3 : Int) ≠ 4; decide))
  have hl2 : l.length ≤ 200 := hl.2.1
  have hnx := nextB_iff.1 (show nextB nx = true from hl.2.2.2)
  refine dec_plain h (by show (3 : Int) ≠ 4; decide) (by show (0 : Int) ≤ 3; decide) (by show (3 : Int) < 256; decide) (by omega) (fun r => ?_)
  show freeP 0 (twoL ([(l.length : Int)] ++ l ++ [nx]) ++ r) = _
  unfold freeP
  rw [List.append_assoc, List.singleton_append, twoP_twoL (by omega) (by omega), twoL_append, List.append_assoc]
  simp only [Int.toNat_natCast]
  rw [intsP_twoL l [] _ (fun x hx => by have := placeB_iff.1 (hl.2.2.1 x hx); omega)]
  simp only
  rw [twoP_twoL (by omega) (by omega)]
  rfl
theorem dec_branch {ks : List ByteArray} {gs : List Int} {s : Int} (h : (pgBranch 0 (ks, gs)).okAt s = true) : decP s ((pgBranch 0 (ks, gs)).encL s) = some (pgBranch 0 (ks, gs)) := by
  obtain ⟨hc, _, hs⟩ := okAt_parts h
  have hl := check_branch hc rfl
  have hs2 := placeB_iff.1 (hs (by show (2 : Int) ≠ 4; decide))
  have h12 : ks.length ≤ 12 := hl.2.1
  have hgl : gs.length = ks.length + 1 := hl.2.2.1
  have hrk : riseP ks = true := hl.2.2.2.1
  have hgp : ∀ n ∈ gs, placeB n = true := hl.2.2.2.2
  refine dec_plain h (by show (2 : Int) ≠ 4; decide) (by show (0 : Int) ≤ 2; decide) (by show (2 : Int) < 256; decide) (by omega) (fun r => ?_)
  cases gs with
  | nil => simp at hgl
  | cons g gs =>
    show branchP 0 ((twoL [(ks.length : Int), g] ++ ((ks.zip gs).flatMap fun x => textL x.1 ++ twoL [x.2])) ++ r) = _
    unfold branchP
    rw [List.append_assoc, twoP_twoL (by omega) (by omega)]
    simp only [Int.toNat_natCast]
    unfold branchE
    have hg := placeB_iff.1 (hgp g (by simp))
    rw [twoP_twoL (by omega) (by omega)]
    have e : twoL [] ++ (((ks.zip gs).flatMap fun x => textL x.1 ++ twoL [x.2]) ++ r) = ((ks.zip gs).flatMap fun x => textL x.1 ++ twoL [x.2]) ++ r := rfl
    simp only [e]
    rw [keysP_keysL ks gs [] [g] r (by simpa using hgl.symm) (by simpa using h12) (fun x hx => by have := riseFrom_size hrk x hx; omega) (fun x hx => by have := placeB_iff.1 (hgp x (by simp [hx])); omega)]
    rfl
theorem check_super {p : PageD} (h : p.check = true) (k : p.kind = 4) : ((p.root = 0 ∧ p.depth = 0 ∧ p.count = 0) ∨ (2 ≤ p.root ∧ p.root < 4096 ∧ 1 ≤ p.depth ∧ p.depth ≤ 20 ∧ 1 ≤ p.count ∧ p.count ≤ 2147483647)) ∧ 2 ≤ p.high ∧ p.high ≤ 4096 ∧ (p.next = 0 ∨ (2 ≤ p.next ∧ p.next < 4096)) := by
  unfold PageD.check at h
  rw [if_neg (by omega), if_neg (by omega), if_neg (by omega), if_pos k] at h
  unfold PageD.noneB PageD.someB at h
  simp only [Bool.and_eq_true, Bool.or_eq_true, decide_eq_true_eq, nextB_iff, placeB_iff, beq_iff_eq] at h
  obtain ⟨⟨⟨⟨⟨⟨h1, h2⟩, h3⟩, h4⟩, _⟩, _⟩, _⟩ := h
  refine ⟨?_, h2, h3, h4⟩
  rcases h1 with ⟨⟨a, b⟩, c⟩ | ⟨⟨⟨⟨⟨a, a'⟩, b⟩, c⟩, d⟩, e⟩
  · exact .inl ⟨a, b, c⟩
  · exact .inr ⟨a, a', b, c, d, e⟩
theorem superB_take {e tx : List UInt8} (he : e.length = 8) : (superB e tx).take 8 = e := by
  unfold superB; rw [List.take_append_of_le_length (by omega), List.take_of_length_le (by omega)]
theorem superB_drop {e tx : List UInt8} (he : e.length = 8) : (superB e tx).drop 8 = tx ++ (List.replicate (504 - tx.length) 0 ++ (tx ++ (List.replicate (504 - tx.length) 0 ++ e))) := by
  unfold superB; rw [List.drop_append_of_le_length (by omega), List.drop_of_length_le (by omega), List.nil_append]
theorem superB_last {e tx : List UInt8} (he : e.length = 8) (ht : tx.length ≤ 504) : (superB e tx).drop 1016 = e := by
  have e1 : superB e tx = (e ++ (tx ++ (List.replicate (504 - tx.length) 0 ++ (tx ++ List.replicate (504 - tx.length) 0)))) ++ e := by unfold superB; simp
  rw [e1, List.drop_append_of_le_length (by simp; omega), List.drop_of_length_le (by simp; omega), List.nil_append]
theorem text_super {p : PageD} {s : Int} (h : p.okAt s = true) (k : p.kind = 4) : (p.text s).length ≤ 504 := by
  have hb := (body_length (okAt_parts h).1).2 k
  unfold PageD.text; rw [List.length_append, List.length_append, twoL_length]; simp; omega
theorem encL_super {p : PageD} {s : Int} (k : p.kind = 4) : p.encL s = superB (eightL p.epoch) (p.text s) := by unfold PageD.encL; rw [if_pos k]
theorem dec_super {ep root depth count high next s : Int} (h : (superPg ep root depth count high next).okAt s = true) (h0 : 0 ≤ ep) (h1 : ep < 9223372036854775808) :
    decP s ((superPg ep root depth count high next).encL s) = some (superPg ep root depth count high next) := by
  obtain ⟨hc, hs, _⟩ := okAt_parts h
  have hs2 := hs rfl
  have hk := check_super hc rfl
  unfold decP
  rw [if_pos (encL_length h)]
  have he := encL_super (s := s) (show (superPg ep root depth count high next).kind = 4 from rfl)
  have hraw : rawP s ((superPg ep root depth count high next).encL s) = some (superPg ep root depth count high next) := by
    unfold rawP epOf restOf
    rw [if_pos hs2, if_pos hs2, he, superB_take (eightL_length _), superB_drop (eightL_length _)]
    have e2 : ∀ r, (superPg ep root depth count high next).text s ++ r = u8I 4 :: u8I (s / 256) :: u8I s :: (twoL (superPg ep root depth count high next).superL ++ r) := fun r => by
      unfold PageD.text PageD.body
      simp [twoL, superPg]
    have e3 : beI (eightL (superPg ep root depth count high next).epoch) = ep := beI_eightL h0 h1
    rw [e3]
    have a1 : (superPg ep root depth count high next).root = root := rfl
    have a2 : (superPg ep root depth count high next).depth = depth := rfl
    have a3 : (superPg ep root depth count high next).count = count := rfl
    have a4 : (superPg ep root depth count high next).high = high := rfl
    have a5 : (superPg ep root depth count high next).next = next := rfl
    rw [a1, a2, a3, a4, a5] at hk
    have key : ∀ r, superP ep (twoL (superPg ep root depth count high next).superL ++ r) = some (superPg ep root depth count high next) := fun r => superP_superL r (by omega) (by omega) (by omega) (by omega) (by omega)
    have fin : ∀ r, restP ep ((superPg ep root depth count high next).text s ++ r) = some (superPg ep root depth count high next) := fun r => by
      rw [e2]
      exact key r
    exact fin _
  rw [hraw]
  simp only
  rw [if_pos (by unfold goodP; rw [h]; simp)]
theorem dec_some {s : Int} {l : List UInt8} {p : PageD} (h : decP s l = some p) : p.okAt s = true ∧ p.encL s = l ∧ l.length = 1024 := by
  unfold decP at h
  split at h
  · rename_i hl
    split at h
    · cases h
    · split at h
      · rename_i hg
        cases h
        unfold goodP at hg
        simp only [Bool.and_eq_true, decide_eq_true_eq] at hg
        exact ⟨hg.1, hg.2, hl⟩
      · cases h
  · cases h
theorem dec_kind {s : Int} {l : List UInt8} {p : PageD} (h : decP s l = some p) (hs : s = 0 ∨ s = 1) : p.kind = 4 := by
  by_cases k : p.kind = 4
  · exact k
  · have := placeB_iff.1 ((okAt_parts (dec_some h).1).2.2 k)
    omega
theorem dec_epoch {s : Int} {l : List UInt8} {p : PageD} (h : decP s l = some p) (hs : s = 0 ∨ s = 1) : l.take 8 = eightL p.epoch ∧ l.drop 1016 = eightL p.epoch := by
  have hk := dec_kind h hs
  obtain ⟨h1, h2, _⟩ := dec_some h
  rw [← h2, encL_super hk]
  exact ⟨superB_take (eightL_length _), superB_last (eightL_length _) (text_super h1 hk)⟩
end Go.Proofs.YtgpohemcfgepeaaGreat

namespace Go.Proofs.YtgpohemcfgepeaaGreat
open Go.RowKit Go.MapKept
structure Dv.calm (D : Dv) : Prop where
  off : D.off = false
  fuse : D.fuse = -1
  fine : D.fine
theorem Dv.calm.use {D : Dv} (h : D.calm) {k : Int} {n : Nat} (h0 : 0 ≤ k) (h1 : k < D.n) (h2 : n ≤ 1024) : useE D k n = 0 := by
  unfold useE
  rw [if_neg (by rw [h.off]; simp), if_neg (by omega)]
theorem Dv.calm.actD {D : Dv} (h : D.calm) : actD D = D ∧ actE D = 0 := by
  unfold Go.Proofs.YtgpohemcfgepeaaGreat.actD actE
  rw [if_neg (by rw [h.fuse]; decide), if_neg (by rw [h.fuse]; decide), if_neg (by rw [h.fuse]; decide)]
  exact ⟨rfl, rfl⟩
theorem Dv.calm.write {D : Dv} (h : D.calm) {k : Int} {l : List UInt8} (h0 : 0 ≤ k) (h1 : k < D.n) (h2 : l.length = 1024) : writeE D k l = 0 ∧ writeD D k l = { D with cache := upd D.cache k (some l) } := by
  have hu := h.use h0 h1 (n := l.length) (by omega)
  unfold writeE writeD
  rw [if_pos hu, if_pos hu, h.actD.2, h.actD.1, if_pos rfl, pad_full h2]
  exact ⟨rfl, rfl⟩
theorem Dv.calm.written {D : Dv} (h : D.calm) {k : Int} {l : List UInt8} (h0 : 0 ≤ k) (h1 : k < D.n) (h2 : l.length = 1024) : (writeD D k l).calm ∧ (writeD D k l).n = D.n ∧ (∀ j, (writeD D k l).bytes j = if j = k then l else D.bytes j) ∧ (writeD D k l).last = D.last ∧ ∀ j, j ≠ k → (writeD D k l).cache j = D.cache j := by
  rw [(h.write h0 h1 h2).2]
  refine ⟨⟨h.off, h.fuse, ⟨h.fine.n2, h.fine.n4, h.fine.keysL, fun j m hj => ?_, h.fine.fuse1, h.fine.fuse2⟩⟩, rfl, fun j => ?_, rfl, fun j hj => upd_ne _ _ hj⟩
  · by_cases e : j = k
    · subst e
      have hm : some l = some m := (upd_same D.cache j (some l)).symm.trans hj
      cases hm
      exact ⟨h0, h1, h2⟩
    · have hj' : D.cache j = some m := (upd_ne D.cache (some l) e).symm.trans hj
      exact h.fine.keysC j m hj'
  · unfold Dv.bytes
    by_cases e : j = k
    · subst e
      rw [if_pos rfl]
      show ((upd D.cache j (some l)) j).getD _ = l
      rw [upd_same]; rfl
    · rw [if_neg e]
      show ((upd D.cache k (some l)) j).getD _ = _
      rw [upd_ne _ _ e]
theorem Dv.calm.sync {D : Dv} (h : D.calm) : syncE D = 0 ∧ syncD D = { D with last := joinM D.cache D.last, cache := fun _ => none } := by
  unfold syncE syncD
  rw [if_neg (by rw [h.off]; simp), if_neg (by rw [h.off]; simp), h.actD.2, h.actD.1, if_pos rfl]
  exact ⟨rfl, rfl⟩
theorem Dv.calm.synced {D : Dv} (h : D.calm) : (syncD D).calm ∧ (syncD D).n = D.n ∧ (∀ j, (syncD D).bytes j = D.bytes j) ∧ ∀ j, (syncD D).cache j = none := by
  rw [h.sync.2]
  refine ⟨⟨h.off, h.fuse, ⟨h.fine.n2, h.fine.n4, fun j m hj => ?_, fun j m hj => (by cases hj), h.fine.fuse1, h.fine.fuse2⟩⟩, rfl, fun j => ?_, fun _ => rfl⟩
  · have hj' : (match D.cache j with | some x => some x | none => D.last j) = some m := hj
    cases hc : D.cache j with
    | none => rw [hc] at hj'; exact h.fine.keysL j m hj'
    | some x => rw [hc] at hj'; cases hj'; exact h.fine.keysC j m hc
  · unfold Dv.bytes
    show (none : Option (List UInt8)).getD ((joinM D.cache D.last j).getD zeros) = _
    unfold joinM
    cases hc : D.cache j with
    | none => rfl
    | some x => rfl
def PoolD.opn (b : PoolD) (k : Int) : Prop := 2 ≤ k ∧ (b.high ≤ k ∨ k ∈ b.free)
structure StD.Run (T : StD) : Prop where
  good : T.good
  blimbo : T.base.limbo = []
  high : T.base.high ≤ T.pool.high
  free : ∀ k, k ∈ T.pool.free → T.base.opn k
  fresh : ∀ k, T.fresh k = true → T.base.opn k ∧ k < T.pool.high ∧ k ∉ T.pool.free
  cover : ∀ k, T.base.opn k → k < T.pool.high → k ∈ T.pool.free ∨ T.fresh k = true
  limbo : ∀ k, k ∈ T.pool.limbo → ¬ T.base.opn k ∨ T.fresh k = true
theorem StD.Run.dev {T : StD} (h : T.Run) {D : Dv} (hn : D.n = T.dev.n) : ({ T with dev := D } : StD).Run :=
  ⟨⟨by show PoolG _ D.n; rw [hn]; exact h.good.pool, by show PoolG _ D.n; rw [hn]; exact h.good.base⟩, h.blimbo, h.high, h.free, h.fresh, h.cover, h.limbo⟩
theorem StD.Run.abort {T : StD} (h : PoolG T.base T.dev.n) (hb : T.base.limbo = []) : T.abort.Run := by
  refine ⟨⟨h, h⟩, hb, Int.le_refl _, fun k hk => ⟨(h.free.2 k hk).1, .inr hk⟩, fun k hk => (by cases hk), fun k hk hl => ?_, fun k hk => ?_⟩
  · rcases hk.2 with h1 | h1
    · exact absurd hl (by show ¬ k < T.base.high; have h1' : T.base.high ≤ k := h1; omega)
    · exact .inl h1
  · have hk' : k ∈ T.base.limbo := hk
    rw [hb] at hk'; cases hk'
theorem take_err {p : PoolD} {most : Int} (h : (p.take most).2.2 ≠ 0) : (p.take most).2.2 = 60 := by
  unfold PoolD.take at h ⊢
  split
  · rename_i e; rw [e] at h; exact absurd rfl h
  · rename_i e
    rw [e] at h
    simp only at h ⊢
    split
    · rfl
    · rename_i hm
      rw [if_neg hm] at h
      exact absurd rfl h
theorem StD.take_fail {T : StD} (h : T.take.2.1 ≠ 0) : T.take.2.1 = 60 ∧ T.take.2.2 = T := by
  unfold StD.take at h ⊢
  split
  · rename_i e; rw [if_pos e] at h; exact absurd rfl h
  · rename_i e; exact ⟨take_err e, rfl⟩
theorem StD.Run.take {T : StD} (h : T.Run) (h0 : T.take.2.1 = 0) : T.take.2.2.Run ∧ T.take.2.2.dev = T.dev ∧ T.take.2.2.super = T.super ∧ T.take.2.2.lists = T.lists ∧ T.take.2.2.base = T.base ∧ T.base.opn T.take.1 ∧ T.take.1 < T.take.2.2.pool.high ∧
    T.fresh T.take.1 = false ∧ (∀ k, T.take.2.2.fresh k = (decide (k = T.take.1) || T.fresh k)) ∧ T.pool.high ≤ T.take.2.2.pool.high ∧ T.take.2.2.pool.limbo = T.pool.limbo ∧ T.take.1 ∉ T.pool.limbo := by
  have he : (T.pool.take T.dev.n).2.2 = 0 := by
    unfold StD.take at h0
    split at h0
    · rename_i e; exact e
    · exact h0
  have ht : T.take = ((T.pool.take T.dev.n).2.1, 0, { T with pool := (T.pool.take T.dev.n).1, fresh := fun k => decide (k = (T.pool.take T.dev.n).2.1) || T.fresh k }) := by unfold StD.take; rw [if_pos he]
  have hp := h.good.pool.take he
  obtain ⟨g1, g2, g3, g4, g5, g6, g7, g8, g9, g10, g11⟩ := hp
  rw [ht]
  have ho : T.base.opn (T.pool.take T.dev.n).2.1 := by
    rcases g9 with h1 | h1
    · exact h.free _ h1
    · exact ⟨g2, .inl (by rw [h1]; exact h.high)⟩
  have hfr : T.fresh (T.pool.take T.dev.n).2.1 = false := by
    cases hq : T.fresh (T.pool.take T.dev.n).2.1 with
    | false => rfl
    | true =>
      have h1 := h.fresh _ hq
      rcases g9 with h2 | h2
      · exact absurd h2 h1.2.2
      · have := h1.2.1; omega
  refine ⟨⟨⟨g1, h.good.base⟩, h.blimbo, Int.le_trans h.high g4, fun k hk => h.free k (g10 k hk), fun k hk => ?_, fun k hk hl => ?_, fun k hk => ?_⟩, rfl, rfl, rfl, rfl, ho, g3, hfr, fun _ => rfl, g4, g8, ?_⟩
  · have hk' : (decide (k = (T.pool.take T.dev.n).2.1) || T.fresh k) = true := hk
    simp only [Bool.or_eq_true, decide_eq_true_eq] at hk'
    rcases hk' with rfl | hk'
    · exact ⟨ho, g3, g6⟩
    · have h1 := h.fresh k hk'
      exact ⟨h1.1, Int.lt_of_lt_of_le h1.2.1 g4, fun hm => h1.2.2 (g10 k hm)⟩
  · show k ∈ (T.pool.take T.dev.n).1.free ∨ (decide (k = (T.pool.take T.dev.n).2.1) || T.fresh k) = true
    have hl' : k < (T.pool.take T.dev.n).1.high := hl
    by_cases e : k = (T.pool.take T.dev.n).2.1
    · exact .inr (by simp [e])
    · by_cases hlt : k < T.pool.high
      · rcases h.cover k hk hlt with h1 | h1
        · rcases g11 k h1 with h2 | h2
          · exact absurd h2 e
          · exact .inl h2
        · exact .inr (by simp [h1])
      · exfalso
        have hkh : k = T.pool.high := by omega
        rcases g9 with h1 | h1
        · have h2 := h.good.pool.free.2 _ h1
          have h3 : (T.pool.take T.dev.n).1.high = T.pool.high := by
            unfold PoolD.take
            split
            · rfl
            · rename_i hn; rw [hn] at h1; cases h1
          omega
        · exact e (by omega)
  · have hk' : k ∈ (T.pool.take T.dev.n).1.limbo := hk
    rw [g8] at hk'
    rcases h.limbo k hk' with h1 | h1
    · exact .inl h1
    · exact .inr (by show (decide (k = (T.pool.take T.dev.n).2.1) || T.fresh k) = true; simp [h1])
  · rw [g8] at g7
    exact g7
theorem StD.Run.give {T : StD} (h : T.Run) {n : Int} (hm : T.pool.may n = true) : ({ T with pool := (T.pool.give n).1 } : StD).Run := by
  have e : T.pool.give n = ({ T.pool with limbo := laidP T.pool.limbo n }, 0) := by unfold PoolD.give; rw [if_pos hm]
  obtain ⟨m1, m2, m3, m4⟩ := may_iff.1 hm
  rw [e]
  refine ⟨⟨h.good.pool.give hm, h.good.base⟩, h.blimbo, h.high, h.free, h.fresh, h.cover, fun k hk => ?_⟩
  rcases mem_laidP.1 hk with rfl | hk
  · by_cases ho : T.base.opn k
    · rcases h.cover k ho m2 with h1 | h1
      · exact absurd h1 m3
      · exact .inr h1
    · exact .inl ho
  · exact h.limbo k hk
theorem StD.Run.drop {T : StD} (h : T.Run) (n : Int) : (T.drop n).2.Run ∧ (T.drop n).2.dev = T.dev ∧ (T.drop n).2.super = T.super ∧ (T.drop n).2.lists = T.lists ∧ (T.drop n).2.base = T.base ∧ (T.drop n).2.pool.high = T.pool.high := by
  cases hf : T.fresh n with
  | true =>
    by_cases hm : T.pool.may n = true
    · have e : T.pool.back n = ({ T.pool with free := laidP T.pool.free n }, 0) := by unfold PoolD.back; rw [if_pos hm]
      have hd : (T.drop n).2 = { T with pool := { T.pool with free := laidP T.pool.free n }, fresh := fun k => !decide (k = n) && T.fresh k } := by
        unfold StD.drop; simp only [hf, if_true, e]
      obtain ⟨m1, m2, m3, m4⟩ := may_iff.1 hm
      rw [hd]
      have ho := h.fresh n hf
      refine ⟨⟨⟨h.good.pool.back hm, h.good.base⟩, h.blimbo, h.high, fun k hk => ?_, fun k hk => ?_, fun k hk hl => ?_, fun k hk => ?_⟩, rfl, rfl, rfl, rfl, rfl⟩
      · rcases mem_laidP.1 hk with rfl | hk
        · exact ho.1
        · exact h.free k hk
      · have hk' : (!decide (k = n) && T.fresh k) = true := hk
        simp only [Bool.and_eq_true, Bool.not_eq_true', decide_eq_false_iff_not] at hk'
        have h1 := h.fresh k hk'.2
        refine ⟨h1.1, h1.2.1, fun hm => ?_⟩
        rcases mem_laidP.1 hm with h2 | h2
        · exact hk'.1 h2
        · exact h1.2.2 h2
      · show k ∈ laidP T.pool.free n ∨ (!decide (k = n) && T.fresh k) = true
        by_cases e : k = n
        · exact .inl (mem_laidP.2 (.inl e))
        · rcases h.cover k hk hl with h1 | h1
          · exact .inl (mem_laidP.2 (.inr h1))
          · exact .inr (by simp [e, h1])
      · have hk' : k ∈ T.pool.limbo := hk
        rcases h.limbo k hk' with h1 | h1
        · exact .inl h1
        · refine .inr ?_
          show (!decide (k = n) && T.fresh k) = true
          have : k ≠ n := fun e => m4 (e ▸ hk')
          simp [this, h1]
    · have e : T.pool.back n = (⟨0, [], []⟩, 1) := by unfold PoolD.back; rw [if_neg hm]
      have hd : (T.drop n).2 = T := by unfold StD.drop; simp [hf, e]
      rw [hd]
      exact ⟨h, rfl, rfl, rfl, rfl, rfl⟩
  | false =>
    by_cases hm : T.pool.may n = true
    · have e : T.pool.give n = ({ T.pool with limbo := laidP T.pool.limbo n }, 0) := by unfold PoolD.give; rw [if_pos hm]
      have hg := h.give hm
      have hfe : (fun k => !decide (k = n) && T.fresh k) = T.fresh := by
        funext k
        by_cases e : k = n
        · subst e; simp [hf]
        · simp [e]
      have hd : (T.drop n).2 = { T with pool := (T.pool.give n).1 } := by
        unfold StD.drop
        rw [hfe]
        simp only [hf, Bool.false_eq_true, if_false, e, if_true]
      rw [hd]
      exact ⟨hg, rfl, rfl, rfl, rfl, by rw [e]⟩
    · have e : T.pool.give n = (⟨0, [], []⟩, 1) := by unfold PoolD.give; rw [if_neg hm]
      have hd : (T.drop n).2 = T := by unfold StD.drop; simp [hf, e]
      rw [hd]
      exact ⟨h, rfl, rfl, rfl, rfl, rfl⟩
theorem StD.Run.drops {T : StD} (h : T.Run) (l : List Int) : (T.drops l).Run ∧ (T.drops l).dev = T.dev ∧ (T.drops l).super = T.super ∧ (T.drops l).lists = T.lists ∧ (T.drops l).base = T.base ∧ (T.drops l).pool.high = T.pool.high := by
  unfold StD.drops
  induction l generalizing T with
  | nil => exact ⟨h, rfl, rfl, rfl, rfl, rfl⟩
  | cons x l ih =>
    have h1 := h.drop x
    have h2 := ih h1.1
    exact ⟨h2.1, h2.2.1.trans h1.2.1, h2.2.2.1.trans h1.2.2.1, h2.2.2.2.1.trans h1.2.2.2.1, h2.2.2.2.2.1.trans h1.2.2.2.2.1, h2.2.2.2.2.2.trans h1.2.2.2.2.2⟩
end Go.Proofs.YtgpohemcfgepeaaGreat

namespace Go.Proofs.YtgpohemcfgepeaaGreat
open Go.RowKit Go.MapKept
structure StD.Step (T T' : StD) : Prop where
  run : T'.Run
  calm : T'.dev.calm
  n : T'.dev.n = T.dev.n
  super : T'.super = T.super
  lists : T'.lists = T.lists
  base : T'.base = T.base
  bytes : ∀ j, ¬ T.base.opn j → T'.dev.bytes j = T.dev.bytes j ∧ T'.dev.cache j = T.dev.cache j
  last : T'.dev.last = T.dev.last
theorem StD.Step.refl {T : StD} (h : T.Run) (hc : T.dev.calm) : T.Step T := ⟨h, hc, rfl, rfl, rfl, rfl, fun _ _ => ⟨rfl, rfl⟩, rfl⟩
theorem StD.Step.trans {T T1 T2 : StD} (h : T.Step T1) (k : T1.Step T2) : T.Step T2 :=
  ⟨k.run, k.calm, k.n.trans h.n, k.super.trans h.super, k.lists.trans h.lists, k.base.trans h.base, fun j hj => by
    have h1 := h.bytes j hj
    have h2 := k.bytes j (by rw [h.base]; exact hj)
    exact ⟨h2.1.trans h1.1, h2.2.trans h1.2⟩, k.last.trans h.last⟩
theorem StD.Step.ofDev {T T' : StD} (hr : T'.Run) (hc : T.dev.calm) (hd : T'.dev = T.dev) (h1 : T'.super = T.super) (h2 : T'.lists = T.lists) (h3 : T'.base = T.base) : T.Step T' :=
  ⟨hr, by rw [hd]; exact hc, by rw [hd], h1, h2, h3, fun j _ => by rw [hd]; exact ⟨rfl, rfl⟩, by rw [hd]⟩
theorem StD.Run.toAbort {T : StD} (h : T.Run) (hc : T.dev.calm) : T.Step T.abort := .ofDev (.abort h.good.base h.blimbo) hc rfl rfl rfl rfl
theorem StD.Run.toEnd {T : StD} (h : T.Run) (hc : T.dev.calm) (e : Int) : T.Step (T.end e) := by
  unfold StD.end
  split
  · exact h.toAbort hc
  · exact .refl h hc
theorem StD.Run.toDrop {T : StD} (h : T.Run) (hc : T.dev.calm) (n : Int) : T.Step (T.drop n).2 := by
  have h1 := h.drop n
  exact .ofDev h1.1 hc h1.2.1 h1.2.2.1 h1.2.2.2.1 h1.2.2.2.2.1
theorem StD.Run.toTake {T : StD} (h : T.Run) (hc : T.dev.calm) : T.Step T.take.2.2 := by
  by_cases h0 : T.take.2.1 = 0
  · have h1 := h.take h0
    exact .ofDev h1.1 hc h1.2.1 h1.2.2.1 h1.2.2.2.1 h1.2.2.2.2.1
  · rw [(StD.take_fail h0).2]; exact .refl h hc
theorem StD.Run.write {T : StD} (h : T.Run) (hc : T.dev.calm) {n : Int} {p : PageD} (hp : p.okAt n = true) (h0 : 0 ≤ n) (h1 : n < T.dev.n) :
    (T.write n p).1 = 0 ∧ (T.write n p).2 = { T with dev := writeD T.dev n (p.encL n) } ∧ (T.write n p).2.Run ∧ (T.write n p).2.dev.calm ∧ (T.write n p).2.dev.n = T.dev.n ∧ (∀ j, (T.write n p).2.dev.bytes j = if j = n then p.encL n else T.dev.bytes j) ∧
      (T.write n p).2.dev.last = T.dev.last ∧ ∀ j, j ≠ n → (T.write n p).2.dev.cache j = T.dev.cache j := by
  have hl := encL_length hp
  have hw := hc.write h0 h1 hl
  have hw2 := hc.written h0 h1 hl
  have e : T.write n p = (0, { T with dev := writeD T.dev n (p.encL n) }) := by unfold StD.write; rw [if_pos hp, hw.1]
  rw [e]
  exact ⟨rfl, rfl, h.dev hw2.2.1, hw2.1, hw2.2.1, hw2.2.2.1, hw2.2.2.2.1, hw2.2.2.2.2⟩
theorem StD.Run.toWrite {T : StD} (h : T.Run) (hc : T.dev.calm) {n : Int} {p : PageD} (hp : p.okAt n = true) (h0 : 0 ≤ n) (h1 : n < T.dev.n) (ho : T.base.opn n) : T.Step (T.write n p).2 := by
  obtain ⟨_, e, a, b, c, d, f, g⟩ := h.write hc hp h0 h1
  refine ⟨a, b, c, by rw [e], by rw [e], by rw [e], fun j hj => ?_, f⟩
  have hn : j ≠ n := fun e => hj (e ▸ ho)
  exact ⟨by rw [d, if_neg hn], g j hn⟩
theorem StD.Run.place {T : StD} (h : T.Run) (hc : T.dev.calm) (old : Int) :
    T.Step (T.place old).2.2 ∧ (T.place old).2.2.dev = T.dev ∧ ((T.place old).2.1 = 0 ∨ (T.place old).2.1 = 1 ∨ (T.place old).2.1 = 60) ∧
      ((T.place old).2.1 = 0 → T.base.opn (T.place old).1 ∧ (T.place old).2.2.fresh (T.place old).1 = true ∧ (T.place old).1 < (T.place old).2.2.pool.high) ∧ T.pool.high ≤ (T.place old).2.2.pool.high ∧ (∀ k, T.fresh k = true → (T.place old).2.1 = 0 → (T.place old).2.2.fresh k = true) := by
  by_cases hf : T.fresh old = true
  · have e : T.place old = (old, 0, T) := by unfold StD.place; rw [if_pos hf]
    rw [e]
    have h1 := h.fresh old hf
    exact ⟨.refl h hc, rfl, .inl rfl, fun _ => ⟨h1.1, hf, h1.2.1⟩, Int.le_refl _, fun k hk _ => hk⟩
  by_cases h0 : T.take.2.1 = 0
  · have ht := h.take h0
    obtain ⟨t1, t2, t3, t4, t5, t6, t7, t8, t9, t10, t11, t12⟩ := ht
    have hst := h.toTake hc
    have hfr : T.take.2.2.fresh T.take.1 = true := by rw [t9]; simp
    by_cases ho : old = 0
    · have e : T.place old = (T.take.1, 0, T.take.2.2) := by unfold StD.place; rw [if_neg hf, if_pos (.inr ho), h0]
      rw [e]
      exact ⟨hst, t2, .inl rfl, fun _ => ⟨t6, hfr, t7⟩, t10, fun k hk _ => by show T.take.2.2.fresh k = true; rw [t9, hk]; simp⟩
    · by_cases hm : T.take.2.2.pool.may old = true
      · have eg : T.take.2.2.pool.give old = ({ T.take.2.2.pool with limbo := laidP T.take.2.2.pool.limbo old }, 0) := by unfold PoolD.give; rw [if_pos hm]
        have e : T.place old = (T.take.1, 0, { T.take.2.2 with pool := (T.take.2.2.pool.give old).1 }) := by
          unfold StD.place
          rw [if_neg hf, if_neg (by simp [h0, ho]), if_neg (by rw [eg]; simp)]
        rw [e]
        refine ⟨hst.trans (.ofDev (t1.give hm) hst.calm rfl rfl rfl rfl), t2, .inl rfl, fun _ => ⟨t6, hfr, ?_⟩, ?_, fun k hk _ => by show T.take.2.2.fresh k = true; rw [t9, hk]; simp⟩
        · show T.take.1 < (T.take.2.2.pool.give old).1.high
          rw [eg]; exact t7
        · show T.pool.high ≤ (T.take.2.2.pool.give old).1.high
          rw [eg]; exact t10
      · have eg : T.take.2.2.pool.give old = (⟨0, [], []⟩, 1) := by unfold PoolD.give; rw [if_neg hm]
        have e : T.place old = (0, 1, (T.take.2.2.drop T.take.1).2) := by
          unfold StD.place
          rw [if_neg hf, if_neg (by simp [h0, ho]), if_pos (by rw [eg]; simp), eg]
        rw [e]
        have hd := t1.drop T.take.1
        exact ⟨hst.trans (t1.toDrop hst.calm _), hd.2.1.trans t2, .inr (.inl rfl), fun h => absurd h (by simp), by rw [hd.2.2.2.2.2]; exact t10, fun k hk h => absurd h (by simp)⟩
  · have hq := StD.take_fail h0
    have e : T.place old = (T.take.1, 60, T) := by unfold StD.place; rw [if_neg hf, if_pos (.inl h0), hq.1, hq.2]
    rw [e]
    exact ⟨.refl h hc, rfl, .inr (.inr rfl), fun h => absurd h (by simp), Int.le_refl _, fun k hk h => absurd h (by simp)⟩
theorem StD.Run.lay {T : StD} (h : T.Run) (hc : T.dev.calm) (old : Int) (p : PageD) :
    T.Step (T.lay old p).2.2 ∧ ((T.lay old p).2.1 = 0 → T.base.opn (T.lay old p).1 ∧ (T.lay old p).2.2.fresh (T.lay old p).1 = true ∧ (T.lay old p).1 < (T.lay old p).2.2.pool.high ∧ (T.lay old p).2.2.dev.bytes (T.lay old p).1 = p.encL (T.lay old p).1 ∧ p.okAt (T.lay old p).1 = true) := by
  by_cases hb : p.check = false ∨ p.kind = 4
  · have e : T.lay old p = (0, 50, T) := by unfold StD.lay; rw [if_pos hb]
    rw [e]
    exact ⟨.refl h hc, fun h => absurd h (by simp)⟩
  obtain ⟨p1, p2, p3, p4, p5, p6⟩ := h.place hc old
  by_cases h0 : (T.place old).2.1 = 0
  · have q := p4 h0
    have hn4 := hc.fine.n4
    have hhi := p1.run.good.pool.hi
    rw [p1.n] at hhi
    have hck : p.check = true := by
      cases hq : p.check with
      | true => rfl
      | false => exact absurd (.inl hq) hb
    have hok : p.okAt (T.place old).1 = true := by
      unfold PageD.okAt
      rw [hck, if_neg (fun k => hb (.inr k))]
      have := q.1.1
      have := q.2.2
      rw [placeB_iff.2 ⟨by omega, by omega⟩]; rfl
    have hlt : (T.place old).1 < ((T.place old).2.2.dev.n : Int) := by rw [p1.n]; have := q.2.2; omega
    have hge : 0 ≤ (T.place old).1 := by have := q.1.1; omega
    have hw := p1.run.write p1.calm hok hge hlt
    have e : T.lay old p = ((T.place old).1, 0, ((T.place old).2.2.write (T.place old).1 p).2) := by
      unfold StD.lay
      rw [if_neg hb, if_neg (by simp [h0]), if_neg (by simp [hw.1])]
    rw [e]
    have hst := p1.run.toWrite p1.calm hok hge hlt (by rw [p1.base]; exact q.1)
    refine ⟨p1.trans hst, fun _ => ⟨q.1, ?_, ?_, ?_, hok⟩⟩
    · show ((T.place old).2.2.write (T.place old).1 p).2.fresh _ = true
      rw [hw.2.1]; exact q.2.1
    · show _ < ((T.place old).2.2.write (T.place old).1 p).2.pool.high
      rw [hw.2.1]; exact q.2.2
    · show ((T.place old).2.2.write (T.place old).1 p).2.dev.bytes _ = _
      rw [hw.2.2.2.2.2.1, if_pos rfl]
  · have e : T.lay old p = (0, (T.place old).2.1, (T.place old).2.2.end (T.place old).2.1) := by unfold StD.lay; rw [if_neg hb, if_pos h0]
    rw [e]
    exact ⟨p1.trans (p1.run.toEnd p1.calm _), fun h => absurd h h0⟩
theorem StD.Run.takes : ∀ (f : Nat) (ps : List Int) (T : StD), T.Run → T.dev.calm → ps.Nodup → (∀ x ∈ ps, T.fresh x = true ∧ x ∉ T.pool.limbo) →
    T.Step (StD.takes f ps T).2.2 ∧ (StD.takes f ps T).2.2.dev = T.dev ∧ ((StD.takes f ps T).2.1 = 0 ∨ (StD.takes f ps T).2.1 = 60) ∧
      ((StD.takes f ps T).2.1 = 0 → (StD.takes f ps T).1.Nodup ∧ (∀ x ∈ (StD.takes f ps T).1, (StD.takes f ps T).2.2.fresh x = true ∧ x ∉ (StD.takes f ps T).2.2.pool.limbo) ∧ (∀ x ∈ (StD.takes f ps T).1, x ∈ ps ∨ T.fresh x = false) ∧ (T.pool.listsP.length < f + ps.length → (StD.takes f ps T).2.2.pool.listsP.length ≤ (StD.takes f ps T).1.length))
  | 0, ps, T, h, hc, hn, hi => ⟨.refl h hc, rfl, .inl rfl, fun _ => ⟨hn, hi, fun x hx => .inl hx, fun hl => by show T.pool.listsP.length ≤ ps.length; omega⟩⟩
  | f + 1, ps, T, h, hc, hn, hi => by
    by_cases hs : T.pool.listsP.length ≤ ps.length
    · rw [takes_stop (f + 1) hs]
      exact ⟨.refl h hc, rfl, .inl rfl, fun _ => ⟨hn, hi, fun x hx => .inl hx, fun _ => hs⟩⟩
    by_cases h0 : T.take.2.1 = 0
    · have e : StD.takes (f + 1) ps T = StD.takes f (ps ++ [T.take.1]) T.take.2.2 := by
        conv => lhs; unfold StD.takes
        rw [if_neg hs, if_neg (by simp [h0])]
      rw [e]
      obtain ⟨t1, t2, t3, t4, t5, t6, t7, t8, t9, t10, t11, t12⟩ := h.take h0
      have hst := h.toTake hc
      have hnm : T.take.1 ∉ ps := fun hm => by have := (hi _ hm).1; rw [t8] at this; cases this
      have ih := StD.Run.takes f (ps ++ [T.take.1]) T.take.2.2 t1 (by rw [t2]; exact hc) (nodup_snoc hn hnm) (fun x hx => by
        rcases List.mem_append.1 hx with hx | hx
        · refine ⟨by rw [t9, (hi x hx).1]; simp, ?_⟩
          rw [t11]; exact (hi x hx).2
        · rw [List.mem_singleton.1 hx]
          refine ⟨by rw [t9]; simp, ?_⟩
          rw [t11]; exact t12)
      refine ⟨hst.trans ih.1, ih.2.1.trans t2, ih.2.2.1, fun h0' => ?_⟩
      obtain ⟨i1, i2, i4, i3⟩ := ih.2.2.2 h0'
      refine ⟨i1, i2, fun x hx => ?_, fun hl => i3 ?_⟩
      · rcases i4 x hx with h1 | h1
        · rcases List.mem_append.1 h1 with h2 | h2
          · exact .inl h2
          · rw [List.mem_singleton.1 h2]; exact .inr t8
        · rw [t9] at h1
          simp only [Bool.or_eq_false_iff] at h1
          exact .inr h1.2
      have := take_lists h0
      rw [List.length_append, List.length_singleton]
      omega
    · have e : StD.takes (f + 1) ps T = ([], 60, T) := by
        have hq := StD.take_fail h0
        conv => lhs; unfold StD.takes
        rw [if_neg hs, if_pos h0, hq.1, hq.2]
      rw [e]
      exact ⟨.refl h hc, rfl, .inr rfl, fun h => absurd h (by simp)⟩
end Go.Proofs.YtgpohemcfgepeaaGreat

namespace Go.Proofs.YtgpohemcfgepeaaGreat
open Go.RowKit Go.MapKept
structure Holds (D : Dv) (s : PageD) (ls : List Int) (base : PoolD) : Prop where
  ep : 1 ≤ s.epoch ∧ s.epoch < 4611686018427387904
  dec : decP (s.epoch % 2) (D.bytes (s.epoch % 2)) = some s
  old : beI ((D.bytes (1 - s.epoch % 2)).take 8) < s.epoch
  high : s.high = base.high ∧ base.high ≤ D.n
  chain : ∃ ll, chainD D (D.n + 2) [] [] s.next = some (ls, ll) ∧ ll.flatten = base.free
  good : PoolG base 4096 ∧ base.limbo = []
  lists : ∀ x ∈ ls, 2 ≤ x ∧ x < base.high ∧ x ∉ base.free
theorem pageD_congr {D D' : Dv} {m : Int} (hn : D'.n = D.n) (ho : D'.off = D.off) (hb : D'.bytes m = D.bytes m) : pageD D' m = pageD D m := by
  unfold pageD useE
  rw [hn, ho, hb]
theorem chain_ext {D : Dv} {ls' : List Int} {ll' : List (List Int)} : ∀ (f : Nat) (ls : List Int) (ll : List (List Int)) (n : Int), chainD D f ls ll n = some (ls', ll') → ∀ x ∈ ls, x ∈ ls'
  | 0, ls, ll, n, h, x, hx => by cases h
  | f + 1, ls, ll, n, h, x, hx => by
    unfold chainD at h
    split at h
    · cases h; exact hx
    · split at h
      · cases h
      · exact chain_ext f _ _ _ h x (List.mem_append.2 (.inl hx))
theorem chain_congr {D D' : Dv} {ls' : List Int} {ll' : List (List Int)} : ∀ (f : Nat) (ls : List Int) (ll : List (List Int)) (n : Int), chainD D f ls ll n = some (ls', ll') → (∀ m ∈ ls', pageD D' m = pageD D m) → chainD D' f ls ll n = some (ls', ll')
  | 0, ls, ll, n, h, _ => by cases h
  | f + 1, ls, ll, n, h, hp => by
    unfold chainD at h ⊢
    split at h
    · rename_i hn; rw [if_pos hn]; exact h
    · rename_i hn
      rw [if_neg hn]
      split at h
      · cases h
      · rename_i hc
        have hm : n ∈ ls' := chain_ext f _ _ _ h n (by simp)
        rw [hp n hm, if_neg hc]
        exact chain_congr f _ _ _ h hp
theorem Holds.step {D D' : Dv} {s : PageD} {ls : List Int} {base : PoolD} (h : Holds D s ls base) (hn : D'.n = D.n) (ho : D'.off = D.off) (hb : ∀ j, ¬ base.opn j → D'.bytes j = D.bytes j) : Holds D' s ls base := by
  have hno : ∀ j, j < 2 → D'.bytes j = D.bytes j := fun j hj => hb j (fun ho => by have := ho.1; omega)
  obtain ⟨ll, hc, hf⟩ := h.chain
  refine ⟨h.ep, by rw [hno _ (by omega)]; exact h.dec, by rw [hno _ (by omega)]; exact h.old, ⟨h.high.1, by rw [hn]; exact h.high.2⟩, ⟨ll, ?_, hf⟩, h.good, h.lists⟩
  rw [hn]
  exact chain_congr _ _ _ _ hc (fun m hm => pageD_congr hn ho (hb m (fun hop => by
    have := h.lists m hm
    rcases hop.2 with h1 | h1
    · omega
    · exact this.2.2 h1)))
theorem dec_ep {s : Int} {l : List UInt8} {p : PageD} (h : decP s l = some p) (hs : s = 0 ∨ s = 1) : p.epoch = beI (l.take 8) := by
  have hk := dec_kind h hs
  unfold decP at h
  split at h
  · split at h
    · cases h
    · rename_i q hr
      split at h
      · cases h
        unfold rawP epOf restOf at hr
        rw [if_pos hs, if_pos hs] at hr
        revert hr
        generalize l.drop 8 = r
        intro hr
        match r, hr with
        | k :: a :: b :: r, hr =>
          have hr' : pageP (beI (l.take 8)) (k.toNat : Int) r = some p := hr
          unfold pageP at hr'
          split at hr'
          · split at hr'
            · obtain ⟨x, _, rfl⟩ := Option.map_eq_some_iff.1 hr'
              exact absurd hk (by show ¬ ((1 : Int) = 4); decide)
            · cases hr'
          split at hr'
          · unfold branchP at hr'
            split at hr'
            · cases hr'
            · unfold branchE at hr'
              split at hr'
              · cases hr'
              · obtain ⟨x, _, rfl⟩ := Option.map_eq_some_iff.1 hr'
                exact absurd hk (by show ¬ ((2 : Int) = 4); decide)
          split at hr'
          · unfold freeP at hr'
            split at hr'
            · cases hr'
            · split at hr'
              · cases hr'
              · split at hr'
                · cases hr'
                · cases hr'
                  exact absurd hk (by show ¬ ((3 : Int) = 4); decide)
          split at hr'
          · exact (superP_some hr').2.2.2.2.1
          · rename_i h4
            cases hr'
            exact absurd hk h4
      · cases h
  · cases h
theorem chunk_take (l : List Int) (m : Nat) : ∀ k, ((List.range k).map fun i => (l.drop (m * i)).take m).flatten = l.take (m * k)
  | 0 => by simp
  | k + 1 => by
    rw [List.range_succ, List.map_append, List.flatten_append, chunk_take l m k]
    simp only [List.map_cons, List.map_nil, List.flatten_cons, List.flatten_nil, List.append_nil]
    rw [Nat.mul_succ, List.take_add]
theorem chunkL_flat (l : List Int) : (chunkL 200 l).flatten = l := by
  unfold chunkL
  rw [chunk_take, List.take_of_length_le (by omega)]
theorem getD_flat (ls : List (List Int)) : ∀ d, ((List.range (ls.length + d)).map fun i => ls.getD i []).flatten = ls.flatten
  | 0 => by
    congr 1
    refine List.ext_getElem (by simp) (fun i h1 h2 => ?_)
    simp [List.getD_eq_getElem?_getD, List.getElem?_eq_getElem h2]
  | d + 1 => by
    rw [← Nat.add_assoc, List.range_succ, List.map_append, List.flatten_append, getD_flat ls d]
    simp [List.getD_eq_getElem?_getD]
theorem chunkL_sub {m : Nat} {l x : List Int} (h : x ∈ chunkL m l) : x.Sublist l := by
  unfold chunkL at h
  obtain ⟨k, _, rfl⟩ := List.mem_map.1 h
  exact (List.take_sublist _ _).trans (List.drop_sublist _ _)
theorem sortedB_of : ∀ {l : List Int}, l.Pairwise (· < ·) → sortedB l = true
  | [], _ => rfl
  | [x], _ => rfl
  | x :: y :: l, h => by
    have h1 := List.pairwise_cons.1 h
    have h2 := h1.1 y (by simp)
    show (!decide (y < x) && sortedB (y :: l)) = true
    rw [sortedB_of h1.2]
    simp
    omega
theorem noAdjB_of {l : List Int} (h : l.Pairwise (· < ·)) : noAdjB l = true := by
  rw [noAdjB_iff]
  intro i hi
  have h1 := List.pairwise_iff_getElem.1 h i (i + 1) (by omega) hi (by omega)
  rw [List.getD_eq_getElem?_getD, List.getD_eq_getElem?_getD, List.getElem?_eq_getElem hi, List.getElem?_eq_getElem (by omega)]
  simp only [Option.getD_some]
  omega
theorem free_ok {l : List Int} {nx s : Int} (h : l.Pairwise (· < ·)) (hl : l.length ≤ 200) (hp : ∀ x ∈ l, 2 ≤ x ∧ x < 4096) (hn : nx = 0 ∨ (2 ≤ nx ∧ nx < 4096)) (hs : 2 ≤ s ∧ s < 4096) : (pgFree 0 l nx).okAt s = true := by
  have hh : (pgFree 0 l nx).heads = false := by
    show ((0 : Int) != 0 || (bits .or .i64 (bits .or .i64 (bits .or .i64 0 0) 0) 0 != 0)) = false
    decide
  have hc : (pgFree 0 l nx).check = true := by
    unfold PageD.check
    rw [if_neg (by show ¬ ((3 : Int) = 1); decide), if_neg (by show ¬ ((3 : Int) = 2); decide), if_pos (show (pgFree 0 l nx).kind = 3 from rfl), hh]
    have e1 : (pgFree 0 l nx).pages = l := rfl
    have e2 : (pgFree 0 l nx).next = nx := rfl
    have e3 : (pgFree 0 l nx).hasPairs = false := rfl
    have e4 : (pgFree 0 l nx).hasKids = false := rfl
    rw [e1, e2, e3, e4, sortedB_of h, noAdjB_of h, nextB_iff.2 hn]
    have e5 : (l.any fun n => !placeB n) = false := by
      rw [List.any_eq_false]
      intro x hx
      rw [placeB_iff.2 (hp x hx)]
      simp
    rw [e5]
    simp [hl]
  unfold PageD.okAt
  rw [hc, if_neg (by show ¬ ((3 : Int) = 4); decide), placeB_iff.2 hs]
  rfl
theorem super_ok {ep root depth count high next high' next' s : Int} (h : (superPg ep root depth count high next).check = true) (h1 : 2 ≤ high' ∧ high' ≤ 4096) (h2 : next' = 0 ∨ (2 ≤ next' ∧ next' < 4096)) (hs : s = 0 ∨ s = 1) : (superPg ep root depth count high' next').okAt s = true := by
  have hc : (superPg ep root depth count high' next').check = true := by
    unfold PageD.check at h ⊢
    rw [if_neg (by show ¬ ((4 : Int) = 1); decide), if_neg (by show ¬ ((4 : Int) = 2); decide), if_neg (by show ¬ ((4 : Int) = 3); decide)] at h ⊢
    rw [if_pos (show (superPg ep root depth count high next).kind = 4 from rfl)] at h
    rw [if_pos (show (superPg ep root depth count high' next').kind = 4 from rfl)]
    simp only [Bool.and_eq_true] at h
    have e1 : ((superPg ep root depth count high' next').noneB || (superPg ep root depth count high' next').someB) = true := h.1.1.1.1.1.1
    have e2 : nextB (superPg ep root depth count high' next').next = true := nextB_iff.2 h2
    have e3 : decide (2 ≤ (superPg ep root depth count high' next').high) = true := decide_eq_true h1.1
    have e4 : decide ((superPg ep root depth count high' next').high ≤ 4096) = true := decide_eq_true h1.2
    rw [e1, e2, e3, e4]
    rfl
  unfold PageD.okAt
  rw [hc, if_pos (show (superPg ep root depth count high' next').kind = 4 from rfl)]
  rcases hs with rfl | rfl <;> rfl
end Go.Proofs.YtgpohemcfgepeaaGreat

namespace Go.Proofs.YtgpohemcfgepeaaGreat
open Go.RowKit Go.MapKept
theorem getD_at {ps : List Int} {i : Nat} (h : i < ps.length) : ps.getD i 0 = ps[i] := by
  rw [List.getD_eq_getElem?_getD, List.getElem?_eq_getElem h]; rfl
theorem nodup_at {ps : List Int} (h : ps.Nodup) {i : Nat} (hi : i < ps.length) : ps.getD i 0 ∉ ps.drop (i + 1) ∧ ps.getD i 0 ∉ ps.take i := by
  rw [getD_at hi]
  constructor
  · have h1 : (ps.drop i).Nodup := h.sublist (List.drop_sublist _ _)
    rw [List.drop_eq_getElem_cons hi] at h1
    exact (List.nodup_cons.1 h1).1
  · intro hm
    obtain ⟨j, hj, he⟩ := List.mem_take_iff_getElem.1 hm
    have h1 := List.pairwise_iff_getElem.1 h j i (by omega) hi (by omega)
    exact h1 he
theorem StD.Run.puts {ps : List Int} {ls : List (List Int)} (hn : ps.Nodup) (hk : ∀ k, k < ps.length → (listPg ps ls k).okAt (ps.getD k 0) = true) :
    ∀ (f i : Nat) (T : StD), T.Run → T.dev.calm → i + f = ps.length → (∀ x ∈ ps, T.base.opn x ∧ x < T.dev.n) →
      (StD.puts ps ls f i T).1 = 0 ∧ T.Step (StD.puts ps ls f i T).2 ∧ (StD.puts ps ls f i T).2.pool = T.pool ∧ (StD.puts ps ls f i T).2.fresh = T.fresh ∧ (∀ j, j ∉ ps.drop i → (StD.puts ps ls f i T).2.dev.bytes j = T.dev.bytes j) ∧
        (∀ k, i ≤ k → k < ps.length → (StD.puts ps ls f i T).2.dev.bytes (ps.getD k 0) = (listPg ps ls k).encL (ps.getD k 0))
  | 0, i, T, h, hc, hl, hx => ⟨rfl, .refl h hc, rfl, rfl, fun _ _ => rfl, fun k h1 h2 => by omega⟩
  | f + 1, i, T, h, hc, hl, hx => by
    have hi : i < ps.length := by omega
    have hm : ps.getD i 0 ∈ ps := by rw [getD_at hi]; exact List.getElem_mem hi
    have hxi := hx _ hm
    have h0 : 0 ≤ ps.getD i 0 := by have := hxi.1.1; omega
    obtain ⟨w1, w2, w3, w4, w5, w6, w7, w8⟩ := h.write hc (hk i hi) h0 hxi.2
    have hst := h.toWrite hc (hk i hi) h0 hxi.2 hxi.1
    have e : StD.puts ps ls (f + 1) i T = StD.puts ps ls f (i + 1) (T.write (ps.getD i 0) (listPg ps ls i)).2 := by
      conv => lhs; unfold StD.puts
      rw [if_neg (fun hne => hne w1)]
    rw [e]
    obtain ⟨p1, p2, p3, p4, p5, p6⟩ := StD.Run.puts hn hk f (i + 1) _ w3 w4 (by omega) (fun x hm => by rw [hst.base, w5]; exact hx x hm)
    refine ⟨p1, hst.trans p2, by rw [p3, w2], by rw [p4, w2], fun j hj => ?_, fun k h1 h2 => ?_⟩
    · rw [List.drop_eq_getElem_cons hi, List.mem_cons, not_or] at hj
      rw [p5 j hj.2, w6, if_neg (by rw [getD_at hi]; exact hj.1)]
    · by_cases hki : k = i
      · subst hki
        rw [p5 _ (nodup_at hn hi).1, w6, if_pos rfl]
      · exact p6 k (by omega) h2
theorem chain_lists {D : Dv} {ps : List Int} {ls : List (List Int)} (hn : ps.Nodup) (h2 : ∀ x ∈ ps, 2 ≤ x) (hp : ∀ k, k < ps.length → pageD D (ps.getD k 0) = (listPg ps ls k, 0)) :
    ∀ (f i : Nat), i ≤ ps.length → ps.length - i < f → chainD D f (ps.take i) ((List.range i).map fun k => ls.getD k []) (ps.getD i 0) = some (ps, (List.range ps.length).map fun k => ls.getD k [])
  | 0, i, hi, hf => by omega
  | f + 1, i, hi, hf => by
    by_cases he : i = ps.length
    · subst he
      have e : ps.getD ps.length 0 = 0 := by rw [List.getD_eq_getElem?_getD, List.getElem?_eq_none (Nat.le_refl _)]; rfl
      rw [e]
      unfold chainD
      rw [if_pos rfl, List.take_length]
    · have hi2 : i < ps.length := by omega
      have hm : ps.getD i 0 ∈ ps := by rw [getD_at hi2]; exact List.getElem_mem hi2
      unfold chainD
      rw [if_neg (by have := h2 _ hm; omega), hp i hi2]
      have hk : (listPg ps ls i).kind = 3 := rfl
      rw [if_neg (by rintro (h | h | h); exact h rfl; exact h hk; exact (nodup_at hn hi2).2 h)]
      have e1 : ps.take i ++ [ps.getD i 0] = ps.take (i + 1) := by rw [List.take_succ_eq_append_getElem hi2, getD_at hi2]
      have e2 : ((List.range i).map fun k => ls.getD k []) ++ [(listPg ps ls i, (0 : Int)).1.pages] = (List.range (i + 1)).map fun k => ls.getD k [] := by
        rw [List.range_succ, List.map_append]; rfl
      have e3 : (listPg ps ls i, (0 : Int)).1.next = ps.getD (i + 1) 0 := rfl
      rw [e1, e2, e3]
      exact chain_lists hn h2 hp f (i + 1) (by omega) (by omega)
theorem drops_fresh {k : Int} : ∀ (l : List Int) (T : StD), k ∉ l → (T.drops l).fresh k = T.fresh k
  | [], T, _ => rfl
  | x :: l, T, h => by
    rw [List.mem_cons, not_or] at h
    have e : (T.drop x).2.fresh k = T.fresh k := by
      unfold StD.drop
      generalize (if T.fresh x = true then T.pool.back x else T.pool.give x) = g
      split
      · show (!decide (k = x) && T.fresh k) = T.fresh k
        simp [h.1]
      · rfl
    show ((T.drop x).2.drops l).fresh k = _
    rw [drops_fresh l _ h.2, e]
theorem page_read {D : Dv} (hc : D.calm) {m : Int} {p : PageD} (h0 : 0 ≤ m) (h1 : m < D.n) (hd : decP m (D.bytes m) = some p) (hk : p.kind ≠ 4) : pageD D m = (p, 0) := by
  unfold pageD
  rw [if_neg (by rw [hc.use h0 h1 (by omega)]; simp), hd]
  simp only
  rw [if_neg hk]
structure StD.Told (T : StD) (root depth count : Int) (T' : StD) : Prop where
  run : T'.Run
  calm : T'.dev.calm
  n : T'.dev.n = T.dev.n
  super : T'.super = superPg (T.super.epoch + 1) root depth count T'.base.high (T'.lists.headD 0)
  holds : Holds T'.dev T'.super T'.lists T'.base
  pool : T'.pool = T'.base
  fresh : ∀ k, T'.fresh k = false
  synced : ∀ j, T'.dev.cache j = none
  bytes : ∀ j, 2 ≤ j → (¬ T.base.opn j ∨ T.fresh j = true) → T'.dev.bytes j = T.dev.bytes j
  slot : T'.dev.bytes (T.super.epoch % 2) = T.dev.bytes (T.super.epoch % 2)
theorem StD.Run.commit {T : StD} (h : T.Run) (hc : T.dev.calm) (hl : ∀ x ∈ T.lists, ¬ T.base.opn x) (he : 0 ≤ T.super.epoch ∧ T.super.epoch < 4611686018427387903)
    (hold : beI ((T.dev.bytes (1 - (T.super.epoch + 1) % 2)).take 8) < T.super.epoch + 1) (root depth count : Int) :
    ((((T.commit root depth count).1 = 50 ∧ (superPg (T.super.epoch + 1) root depth count T.pool.high 0).check = false) ∨ ((T.commit root depth count).1 = 60 ∧ (StD.takes ((T.drops T.lists).pool.listsP.length + 1) [] (T.drops T.lists)).2.1 ≠ 0)) ∧ T.Step (T.commit root depth count).2) ∨ ((T.commit root depth count).1 = 0 ∧ T.Told root depth count (T.commit root depth count).2) := by
  by_cases hck : (superPg (T.super.epoch + 1) root depth count T.pool.high 0).check = false
  · left
    have e : T.commit root depth count = (50, T) := by unfold StD.commit; rw [if_pos hck]
    rw [e]
    exact ⟨.inl ⟨rfl, hck⟩, .refl h hc⟩
  obtain ⟨T0, hT0⟩ : ∃ T0, T.drops T.lists = T0 := ⟨_, rfl⟩
  have hd := h.drops T.lists
  have hdf := fun k hk => drops_fresh (k := k) T.lists T hk
  rw [hT0] at hd hdf
  obtain ⟨d1, d2, d3, d4, d5, d6⟩ := hd
  have hc0 : T0.dev.calm := by rw [d2]; exact hc
  have hst0 : T.Step T0 := .ofDev d1 hc d2 d3 d4 d5
  obtain ⟨t1, t2, t3, t4⟩ := StD.Run.takes (T0.pool.listsP.length + 1) [] T0 d1 hc0 List.nodup_nil (by simp)
  by_cases h0 : (StD.takes (T0.pool.listsP.length + 1) [] T0).2.1 = 0
  · right
    obtain ⟨u1, u2, u3, u4⟩ := t4 h0
    have u4 := u4 (by simp)
    obtain ⟨⟨ps, e1, T1⟩, hR⟩ : ∃ R, StD.takes (T0.pool.listsP.length + 1) [] T0 = R := ⟨_, rfl⟩
    rw [hR] at t1 t2 t3 h0 u1 u2 u3 u4
    simp only at t1 t2 t3 h0 u1 u2 u3 u4
    subst h0
    have hc1 := t1.calm
    have hn4 := hc.fine.n4
    have hn1 : T1.dev.n = T.dev.n := by rw [t2, d2]
    have hb1 : T1.base = T.base := t1.base.trans d5
    have hg1 := t1.run.good.pool
    have hhi := hg1.hi
    rw [hn1] at hhi
    have hps : ∀ x ∈ ps, T1.base.opn x ∧ x < T1.pool.high ∧ 2 ≤ x ∧ x < 4096 ∧ x < (T1.dev.n : Int) ∧ x ∉ T1.pool.free ∧ x ∉ T1.pool.limbo := fun x hx => by
      have h1 := u2 x hx
      have h2 := t1.run.fresh x h1.1
      have := h2.1.1
      exact ⟨h2.1, h2.2.1, this, by have := h2.2.1; omega, by rw [hn1]; have := h2.2.1; omega, h2.2.2, h1.2⟩
    have hps0 : ∀ x ∈ ps, T.base.opn x ∧ T.fresh x = false := fun x hx => by
      have h1 := (hps x hx).1
      rw [hb1] at h1
      refine ⟨h1, ?_⟩
      rcases u3 x hx with h2 | h2
      · cases h2
      · rw [← hdf x (fun hm => hl x hm h1)]; exact h2
    have hrise : Rise T1.pool.high T1.pool.turn.free := hg1.turn.free
    have hls : ∀ l ∈ T1.pool.listsP, l.Pairwise (· < ·) ∧ l.length ≤ 200 ∧ ∀ x ∈ l, 2 ≤ x ∧ x < 4096 := fun l hlm => by
      have hs : l.Sublist T1.pool.turn.free := chunkL_sub hlm
      exact ⟨hrise.1.sublist hs, listsP_small _ l hlm, fun x hx => by have := hrise.2 x (hs.subset hx); omega⟩
    have hok : ∀ k, k < ps.length → (listPg ps T1.pool.listsP k).okAt (ps.getD k 0) = true := fun k hk => by
      have hm : ps.getD k 0 ∈ ps := by rw [getD_at hk]; exact List.getElem_mem hk
      have hx := hps _ hm
      have hL : (T1.pool.listsP.getD k []).Pairwise (· < ·) ∧ (T1.pool.listsP.getD k []).length ≤ 200 ∧ ∀ x ∈ T1.pool.listsP.getD k [], 2 ≤ x ∧ x < 4096 := by
        rw [List.getD_eq_getElem?_getD]
        cases hq : T1.pool.listsP[k]? with
        | none => simp
        | some l => exact hls l (List.mem_of_getElem? hq)
      refine free_ok hL.1 hL.2.1 hL.2.2 ?_ ⟨hx.2.2.1, hx.2.2.2.1⟩
      by_cases hk1 : k + 1 < ps.length
      · right
        have hm1 : ps.getD (k + 1) 0 ∈ ps := by rw [getD_at hk1]; exact List.getElem_mem hk1
        have := hps _ hm1
        exact ⟨this.2.2.1, this.2.2.2.1⟩
      · left
        rw [List.getD_eq_getElem?_getD, List.getElem?_eq_none (by omega)]; rfl
    obtain ⟨p1, p2, p3, p4, p5, p6⟩ := StD.Run.puts u1 hok ps.length 0 T1 t1.run hc1 (by omega) (fun x hx => ⟨(hps x hx).1, (hps x hx).2.2.2.2.1⟩)
    obtain ⟨⟨e2, T2⟩, hP⟩ : ∃ R, StD.puts ps T1.pool.listsP ps.length 0 T1 = R := ⟨_, rfl⟩
    rw [hP] at p1 p2 p3 p4 p5 p6
    simp only at p1 p2 p3 p4 p5 p6
    subst p1
    have hc2 := p2.calm
    have hsy := hc2.synced
    have hL : T0.listed = (ps, 0, { T2 with dev := syncD T2.dev }) := by
      unfold StD.listed
      rw [hR]
      simp only
      rw [if_neg (by simp), hP]
      simp only
      rw [if_neg (by simp), hc2.sync.1]
    obtain ⟨T3, hT3⟩ : ∃ T3 : StD, { T2 with dev := syncD T2.dev } = T3 := ⟨_, rfl⟩
    rw [hT3] at hL
    have r3 : T3.Run := by rw [← hT3]; exact p2.run.dev hsy.2.1
    have c3 : T3.dev.calm := by rw [← hT3]; exact hsy.1
    have n3 : T3.dev.n = T.dev.n := by rw [← hT3]; exact hsy.2.1.trans (p2.n.trans hn1)
    have b3 : ∀ j, T3.dev.bytes j = T2.dev.bytes j := by rw [← hT3]; exact hsy.2.2.1
    have pl3 : T3.pool = T1.pool := by rw [← hT3]; exact p3
    have hn2 := hc.fine.n2
    have hhd : ps.headD 0 = 0 ∨ (2 ≤ ps.headD 0 ∧ ps.headD 0 < 4096) := by
      cases ps with
      | nil => exact .inl rfl
      | cons x l => have := hps x (by simp); exact .inr ⟨this.2.2.1, this.2.2.2.1⟩
    have hslot : (T.super.epoch + 1) % 2 = 0 ∨ (T.super.epoch + 1) % 2 = 1 := by omega
    have hlo3 := hg1.lo
    have hsok : (superPg (T.super.epoch + 1) root depth count T3.pool.high (ps.headD 0)).okAt ((T.super.epoch + 1) % 2) = true := by
      rw [pl3]
      refine super_ok (high := T.pool.high) (next := 0) ?_ ⟨hlo3, by omega⟩ hhd hslot
      cases hq : (superPg (T.super.epoch + 1) root depth count T.pool.high 0).check with
      | true => rfl
      | false => exact absurd hq hck
    obtain ⟨w1, w2, w3, w4, w5, w6, w7, w8⟩ := r3.write c3 hsok (by omega) (by rw [n3]; omega)
    obtain ⟨⟨e4, T4⟩, hW⟩ : ∃ R, T3.write ((T.super.epoch + 1) % 2) (superPg (T.super.epoch + 1) root depth count T3.pool.high (ps.headD 0)) = R := ⟨_, rfl⟩
    rw [hW] at w1 w2 w3 w4 w5 w6 w7 w8
    simp only at w1 w2 w3 w4 w5 w6 w7 w8
    subst w1
    have hsy4 := w4.synced
    have e : T.commit root depth count = (0, ({ T4 with dev := syncD T4.dev, super := superPg (T.super.epoch + 1) root depth count T3.pool.high (ps.headD 0), lists := ps, base := T4.pool.turn } : StD).abort) := by
      unfold StD.commit
      rw [if_neg hck, hT0, hL]
      simp only
      rw [if_neg (by simp)]
      unfold StD.sealUp
      simp only
      rw [hW]
      simp only
      rw [if_neg (by simp), w4.sync.1, if_neg (by simp)]
    rw [e]
    have pl4 : T4.pool = T1.pool := by rw [w2]; exact pl3
    have hturn : PoolG T4.pool.turn T.dev.n := by rw [pl4]; have := hg1.turn; rw [hn1] at this; exact this
    have hby : ∀ j, (syncD T4.dev).bytes j = if j = (T.super.epoch + 1) % 2 then (superPg (T.super.epoch + 1) root depth count T3.pool.high (ps.headD 0)).encL ((T.super.epoch + 1) % 2) else T2.dev.bytes j := fun j => by rw [hsy4.2.2.1, w6, b3]
    have hbo : ∀ j, j ∉ ps → T2.dev.bytes j = T.dev.bytes j := fun j hj => by rw [p5 j (by simpa using hj), t2, d2]
    have hn4' : (syncD T4.dev).n = T.dev.n := hsy4.2.1.trans (w5.trans n3)
    have hgb : ({ T4 with dev := syncD T4.dev, super := superPg (T.super.epoch + 1) root depth count T3.pool.high (ps.headD 0), lists := ps, base := T4.pool.turn } : StD).good := by
      refine ⟨?_, ?_⟩
      · show PoolG T4.pool (syncD T4.dev).n
        rw [hn4', pl4, ← hn1]; exact hg1
      · show PoolG T4.pool.turn (syncD T4.dev).n
        rw [hn4']; exact hturn
    refine ⟨rfl, ⟨.abort hgb.base rfl, hsy4.1, hn4', ?_, ?_, rfl, fun _ => rfl, hsy4.2.2.2, fun j hj ho => ?_, ?_⟩⟩
    · show superPg (T.super.epoch + 1) root depth count T3.pool.high (ps.headD 0) = superPg (T.super.epoch + 1) root depth count T4.pool.high (ps.headD 0)
      rw [pl4, pl3]
    · refine ⟨⟨by show 1 ≤ T.super.epoch + 1; omega, by show T.super.epoch + 1 < _; omega⟩, ?_, ?_, ⟨?_, ?_⟩, ⟨(List.range ps.length).map fun k => T1.pool.listsP.getD k [], ?_, ?_⟩, ⟨hturn.mono (by omega), rfl⟩, fun x hx => ?_⟩
      · show decP ((T.super.epoch + 1) % 2) ((syncD T4.dev).bytes ((T.super.epoch + 1) % 2)) = some (superPg (T.super.epoch + 1) root depth count T3.pool.high (ps.headD 0))
        rw [hby, if_pos rfl]
        exact dec_super hsok (by omega) (by omega)
      · show beI (((syncD T4.dev).bytes (1 - (T.super.epoch + 1) % 2)).take 8) < T.super.epoch + 1
        rw [hby, if_neg (by omega), hbo _ (fun hm => by have := (hps _ hm).2.2.1; omega)]
        exact hold
      · show T3.pool.high = T4.pool.high
        rw [pl4, pl3]
      · show T4.pool.high ≤ ((syncD T4.dev).n : Int)
        rw [hn4', pl4]; exact hhi
      · show chainD (syncD T4.dev) ((syncD T4.dev).n + 2) [] [] (ps.headD 0) = _
        have hlen : ps.length ≤ (syncD T4.dev).n := nodup_len _ ps u1 (fun x hx => by have := hps x hx; rw [hn4', ← hn1]; omega)
        have hh : ps.headD 0 = ps.getD 0 0 := by cases ps <;> rfl
        have hpg : ∀ k, k < ps.length → pageD (syncD T4.dev) (ps.getD k 0) = (listPg ps T1.pool.listsP k, 0) := fun k hk => by
          have hm : ps.getD k 0 ∈ ps := by rw [getD_at hk]; exact List.getElem_mem hk
          have hx := hps _ hm
          refine page_read hsy4.1 (by omega) (by rw [hn4', ← hn1]; exact hx.2.2.2.2.1) ?_ (by show (3 : Int) ≠ 4; decide)
          rw [hby, if_neg (by omega), p6 k (Nat.zero_le _) hk]
          exact dec_free (hok k hk)
        rw [hh]
        exact chain_lists u1 (fun x hx => (hps x hx).2.2.1) hpg _ 0 (Nat.zero_le _) (by omega)
      · show ((List.range ps.length).map fun k => T1.pool.listsP.getD k []).flatten = T4.pool.turn.free
        obtain ⟨d, hdd⟩ : ∃ d, ps.length = T1.pool.listsP.length + d := ⟨ps.length - T1.pool.listsP.length, by omega⟩
        rw [hdd, getD_flat, pl4]
        exact chunkL_flat _
      · have hx' := hps x hx
        refine ⟨hx'.2.2.1, ?_, ?_⟩
        · show x < T4.pool.high
          rw [pl4]; exact hx'.2.1
        · show x ∉ T4.pool.turn.free
          rw [pl4]
          intro hm
          rcases turnL_mem.1 hm with h1 | h1
          · exact hx'.2.2.2.2.2.1 h1
          · exact hx'.2.2.2.2.2.2 h1
    · show (syncD T4.dev).bytes j = T.dev.bytes j
      rw [hby, if_neg (by omega), hbo j (fun hm => ?_)]
      have := hps0 j hm
      rcases ho with ho | ho
      · exact ho this.1
      · rw [this.2] at ho; cases ho
    · show (syncD T4.dev).bytes _ = T.dev.bytes _
      rw [hby, if_neg (by omega)]
      exact hbo _ (fun hm => by have := (hps _ hm).2.2.1; omega)
  · left
    have h60 := t3.resolve_left h0
    have hL : T0.listed = StD.takes (T0.pool.listsP.length + 1) [] T0 := by unfold StD.listed; rw [if_pos h0]
    have e : T.commit root depth count = (60, (StD.takes (T0.pool.listsP.length + 1) [] T0).2.2.end 60) := by
      unfold StD.commit
      rw [if_neg hck, hT0]
      simp only
      rw [hL, if_pos h0, h60]
    rw [e]
    exact ⟨.inr ⟨rfl, by rw [hT0]; exact h0⟩, (hst0.trans t1).trans (t1.run.toEnd t1.calm 60)⟩
theorem StD.Run.commit_ok {T : StD} (h : T.Run) (hc : T.dev.calm) (hl : ∀ x ∈ T.lists, ¬ T.base.opn x) (he : 0 ≤ T.super.epoch ∧ T.super.epoch < 4611686018427387903)
    (hold : beI ((T.dev.bytes (1 - (T.super.epoch + 1) % 2)).take 8) < T.super.epoch + 1) (root depth count : Int) (hk : (superPg (T.super.epoch + 1) root depth count T.pool.high 0).check = true) (hp : (T.drops T.lists).pool.listsP = []) :
    (T.commit root depth count).1 = 0 ∧ T.Told root depth count (T.commit root depth count).2 := by
  rcases h.commit hc hl he hold root depth count with ⟨h1 | h1, _⟩ | h1
  · rw [hk] at h1; exact absurd h1.2 (by simp)
  · rw [takes_stop _ (by rw [hp]; exact Nat.le_refl _)] at h1
    exact absurd rfl h1.2
  · exact h1
theorem new_zero {n : Nat} (j : Int) : (Dv.new n).bytes j = zeros := rfl
theorem beI_zeros : beI (zeros.take 8) = 0 := by decide
theorem new_calm {n : Nat} (h2 : 2 ≤ n) (h4 : n ≤ 4096) : (Dv.new n).calm := ⟨rfl, rfl, ⟨h2, h4, fun k l h => (by cases h), fun k l h => (by cases h), by show (-1 : Int) ≤ -1; decide, by show (-1 : Int) ≤ _; decide⟩⟩
theorem format_ok {n : Nat} (h2 : 2 ≤ n) (h4 : n ≤ 4096) : (formatD (Dv.new n)).1 = 0 ∧ (StD.new (Dv.new n)).abort.Told 0 0 0 (formatD (Dv.new n)).2 := by
  have hg := newGood (D := Dv.new n) h2
  have hr : (StD.new (Dv.new n)).abort.Run := StD.Run.abort (T := StD.new (Dv.new n)) hg.base rfl
  refine hr.commit_ok (new_calm h2 h4) (fun x hx => by cases hx) ⟨by show (0 : Int) ≤ 0; decide, by show (0 : Int) < 4611686018427387903; decide⟩ ?_ 0 0 0 (by show (superPg 1 0 0 0 2 0).check = true; decide) (by show chunkL 200 (turnL [] []) = []; exact chunkL_nil 200 (by decide))
  show beI (((Dv.new n).bytes _).take 8) < _
  rw [new_zero, beI_zeros]
  show (0 : Int) < 0 + 1
  decide
end Go.Proofs.YtgpohemcfgepeaaGreat

namespace Go.Proofs.YtgpohemcfgepeaaGreat
open Go.RowKit Go.MapKept
structure PageD.bare (p : PageD) : Prop where
  pairs : p.pairs = []
  keys : p.keys = []
  kids : p.kids = []
  pages : p.pages = []
def eqSuper (p q : PageD) : Bool := (p.kind == q.kind) && (p.next == q.next) && (p.epoch == q.epoch) && (p.root == q.root) && (p.depth == q.depth) && (p.count == q.count) && (p.high == q.high)
end Go.Proofs.YtgpohemcfgepeaaGreat

namespace Go.Proofs.YtgpohemcfgepeaaGreat
open Go.RowKit Go.MapKept
theorem write_pool (T : StD) (n : Int) (p : PageD) : (T.write n p).2.pool = T.pool ∧ (T.write n p).2.fresh = T.fresh ∧ (T.write n p).2.lists = T.lists := by
  unfold StD.write; split <;> exact ⟨rfl, rfl, rfl⟩
theorem listed_bare {T : StD} (hp : T.pool.listsP = []) : T.listed = ([], syncE T.dev, { T with dev := syncD T.dev }) := by
  unfold StD.listed
  rw [takes_stop _ (by rw [hp]; exact Nat.le_refl _)]
  rfl
theorem commit_bare {T : StD} (hl : T.lists = []) (hp : T.pool.listsP = []) {root depth count : Int} (h0 : (T.commit root depth count).1 = 0) : (T.commit root depth count).2.lists = [] ∧ (T.commit root depth count).2.base = T.pool.turn := by
  have hd : T.drops T.lists = T := by rw [hl]; rfl
  have hL := listed_bare hp
  unfold StD.commit at h0 ⊢
  split at h0
  · cases h0
  · rename_i hc
    rw [if_neg hc]
    rw [hd, hL] at h0 ⊢
    simp only at h0 ⊢
    split at h0
    · rename_i he; exact absurd h0 he
    · rename_i he
      rw [if_neg he]
      unfold StD.sealUp at h0 ⊢
      simp only at h0 ⊢
      split at h0
      · rename_i hw; exact absurd h0 hw
      · rename_i hw
        rw [if_neg hw]
        split at h0
        · rename_i hy; exact absurd h0 hy
        · rename_i hy
          rw [if_neg hy]
          refine ⟨rfl, ?_⟩
          show ((StD.write _ _ _).2.pool).turn = _
          rw [(write_pool _ _ _).1]
theorem take_bare {T : StD} {h : Int} {l : List Int} (hp : T.pool = ⟨h, [], l⟩) (hn : h < T.dev.n) : T.take = (h, 0, { T with pool := ⟨h + 1, [], l⟩, fresh := fun k => decide (k = h) || T.fresh k }) := by
  have e : T.pool.take T.dev.n = (⟨h + 1, [], l⟩, h, 0) := by
    rw [hp]
    unfold PoolD.take
    simp only
    rw [if_neg (by omega)]
  unfold StD.take
  rw [e, if_pos rfl]
theorem place_bare0 {T : StD} {h : Int} {l : List Int} (hf : T.fresh 0 = false) (hp : T.pool = ⟨h, [], l⟩) (hn : h < T.dev.n) : T.place 0 = (h, 0, { T with pool := ⟨h + 1, [], l⟩, fresh := fun k => decide (k = h) || T.fresh k }) := by
  unfold StD.place
  rw [if_neg (by rw [hf]; simp), if_pos (.inr rfl), take_bare hp hn]
def leafD (key : ByteArray) : PageD := pgLeaf 0 [(key, ⟨#[49]⟩)]
structure AwkP (T1 T2 T3 T4 : StD) : Prop where
  f0 : formatD (Dv.new 16) = (0, T1)
  e1 : T1.super.epoch = 1
  g1 : T1.good ∧ T1.lists.length ≤ 1000
  l2 : T1.lay 0 (leafD ⟨#[97]⟩) = (2, 0, T2)
  g2 : T2.good ∧ T2.lists.length ≤ 1000 ∧ T2.super.epoch = 1
  c3 : T2.commit 2 1 1 = (0, T3)
  g3 : T3.good
  l4 : T3.lay 2 (leafD ⟨#[98]⟩) = (3, 0, T4)
  p4 : T4.page 2 = (leafD ⟨#[97]⟩, 0)
  o4 : ∃ T5 : StD, openD T4.dev = (0, some T5) ∧ T5.super.epoch = 2 ∧ T5.super.root = 2
  q4 : ∀ ls ll, chainD T4.dev (T4.dev.n + 2) [] [] (newestD T4.dev).1.next = some (ls, ll) → ll.flatten.length ≤ 10000
  m4 : T4.pool.high = 4 ∧ T4.pool.limbo.length = 1 ∧ T4.pool.small
end Go.Proofs.YtgpohemcfgepeaaGreat
