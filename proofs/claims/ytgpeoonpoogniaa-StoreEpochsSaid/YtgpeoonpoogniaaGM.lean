/- The walk of StoreEpochs. -/
import Derived.Test.YtgpeoonpoogniaaGJ
import Derived.Test.YtgpeoonpoogniaaGE
import Derived.Deep.RegionHeld3
namespace Go.Proofs.Ytgpeoonpoogniaa
open Go.RowKit Go.MapKept

/-- What StoreEpochs' loop holds. -/
structure EpAt (W wr : World) (sb b ml mc fm : Nat) (T : StD) (E : Int) : Prop where
  mine : Mine W wr sb b ml mc fm T
  live : T.Live
  ep : T.super.epoch ≤ E
set_option maxRecDepth 100000 in
set_option maxHeartbeats 8000000 in
theorem StoreEpochs_walk (W : World) {v : Value} {cs : List CallS} (hs : Scr7 [] W v cs) (_ : cs.length ≤ maxLen) :
    Calls Try.prog 5 #[v] W fun e w' => e = .returned (.bool true) ∧ Fr [] W w' := by
  obtain ⟨a, cap, rfl⟩ := hs.form
  have hfe : ∀ (k : Int) (pv kv dv gv : Value) (nx ep rt dp ct hg : Int) (w : World), (Instr.field 43 (.agg #[.int .i64 k, pv, kv, dv, gv, .int .i64 nx, .int .u64 ep, .int .i64 rt, .int .i64 dp, .int .i64 ct, .int .i64 hg]) 6).run Try.prog w = .ok (.int .u64 ep) w := fun _ _ _ _ _ _ _ _ _ _ _ _ => by kernel_rfl
  have hfr : ∀ (k : Int) (pv kv dv gv : Value) (nx ep rt dp ct hg : Int) (w : World), (Instr.field 43 (.agg #[.int .i64 k, pv, kv, dv, gv, .int .i64 nx, .int .u64 ep, .int .i64 rt, .int .i64 dp, .int .i64 ct, .int .i64 hg]) 7).run Try.prog w = .ok (.int .i64 rt) w := fun _ _ _ _ _ _ _ _ _ _ _ _ => by kernel_rfl
  have HS := Lib.hid hs
  clear hs
  obtain ⟨hF0, hF1, hF2, hF3⟩ := StD.Live.format (n := 60) (by decide) (by decide)
  obtain ⟨⟨x1, T1⟩, hF⟩ : ∃ R, formatD (Dv.new 60) = R := ⟨_, rfl⟩
  rw [hF] at hF0 hF1 hF2 hF3
  simp only at hF0 hF1 hF2 hF3
  subst hF0
  have HFM := Lib.hid hF
  have HT1 := Lib.hid (And.intro hF1 hF2)
  clear hF hF1 hF2 hF3
  go_enter Try.func5, Try.ntmps5
  go_wp2_with fail
  refine (awake7_k _).mono ?_
  rintro e w0 ⟨rfl, hf0⟩
  have HF0 := Lib.hid hf0
  clear hf0
  go_wp2_with fail
  refine (new_k 60 _ (by omega) (by omega)).mono ?_
  rintro e w1 ⟨rfl, hd1, hf1⟩
  obtain ⟨b, hb⟩ : ∃ b, w0.heap.size + 2 = b := ⟨_, rfl⟩
  obtain ⟨mc, hmc⟩ : ∃ mc, w0.heap.size + 1 = mc := ⟨_, rfl⟩
  obtain ⟨ml, hml⟩ : ∃ ml, w0.heap.size = ml := ⟨_, rfl⟩
  rw [hb, hmc, hml] at hd1
  rw [hb]
  have HN : Hid (W.heap.size ≤ b ∧ W.heap.size ≤ ml ∧ W.heap.size ≤ mc) := by have := HF0.out.size; exact ⟨by omega, by omega, by omega⟩
  have HD1 := Lib.hid hd1
  have HF1 := Lib.hid (HF0.out.trans hf1)
  clear hd1 hf1 hb hmc hml
  go_wp2_with fail
  refine (format_k w1 HD1.out (by decide)).mono ?_
  rw [HFM.out]
  rintro e w3 ⟨hf3, h3⟩
  have h3 := h3.resolve_right (fun h => h.1 rfl)
  obtain ⟨_, fm, hfm, rfl, hs3⟩ := h3
  obtain ⟨sb, hsb⟩ : ∃ sb, w1.heap.size = sb := ⟨_, rfl⟩
  rw [hsb] at hfm hs3 ⊢
  have HM3 : Hid (Mine W w3 sb b ml mc fm T1) := Lib.hid ⟨hs3, HF1.out.andThen hf3 (fun x hx => .inr (by have := HN.out; simp only [List.mem_cons, List.not_mem_nil, or_false] at hx; rcases hx with h | h | h <;> omega)), by have := HN.out; have := HF1.out.size; omega⟩
  clear hfm hs3 hf3 hsb
  go_wp2_with fail
  go_loopw [8] (fun i wr => ∃ (k : Nat) (fm1 : Nat) (T : StD), k ≤ cs.length ∧ k ≤ 40 ∧ i = .int .i64 k ∧ EpAt W wr sb b ml mc fm1 T (1 + k)) (fun i _ => cs.length - (intOf i).toNat)
  case atStart => exact ⟨0, fm, T1, by omega, by omega, rfl, HM3.out, HT1.out.1, by rw [HT1.out.2]; decide⟩
  case round =>
    obtain ⟨k, fm1, E, hkl, hk40, rfl, hat⟩ := hrel
    have HAT := Lib.hid hat
    clear hat
    by_cases hlt : k < cs.length
    · have hkI : (k : Int) < (cs.length : Int) := by omega
      by_cases hlt4 : k < 40
      · have hk4 : (k : Int) < 40 := by omega
        rcases HS.out with ⟨_, _, _, h0⟩ | ⟨B, off, cap', hv, hall⟩
        · exfalso; rw [h0] at hlt; simp at hlt
        · obtain ⟨rfl, rfl⟩ : a = some ⟨B, off, none⟩ ∧ cap = cap' := by simp only [Value.slice.injEq] at hv; exact ⟨hv.1, hv.2.2⟩
          have hca := hall k cs[k] (List.getElem?_eq_getElem hlt)
          generalize cs[k] = c at *
          obtain ⟨pa, pc, ka, kc, da, dc, ga, gc, d0, d1, xa, xl, xc, ya, yl, yc, d4, d5, hca⟩ := hca
          have HCA := Lib.hid hca
          obtain ⟨L21, hL21⟩ : ∃ L, callL c pa pc ka kc da dc ga gc d0 d1 xa xl xc ya yl yc d4 d5 = L := ⟨_, rfl⟩
          have HLE := Lib.hid hL21
          have hLlen : L21.length = 21 := by rw [← hL21]; rfl
          have hsz : (Try.prog.info? 51).map (·.size) = some L21.length := by rw [hLlen]; exact call_size
          have hsz2 : (Try.prog.info? 51).map (·.size) = some L21.toArray.size := by rw [List.size_toArray, hLlen]; exact call_size
          have hone : L21.toArray.all (·.oneCell') = true := all_oneCell_toArray (by rw [← hL21]; exact callL_one c pa pc ka kc da dc ga gc d0 d1 xa xl xc ya yl yc d4 d5)
          have hrg : wr.rangeAt B (off + k * 21) L21 := fun j u hj => HAT.out.mine.fr.cellSome (hca.cells j u (by rw [hL21]; exact hj)) hca.out
          have hth : (wr.alloc (.cells zero21.toArray 51)).there wr.heap.size 0 L21.toArray.size := by have e : L21.toArray.size = 21 := (List.size_toArray ..).trans hLlen; rw [e]; exact call_there wr
          unfold zero21 at hth
          have HW : Hid (∀ W1, (wr.alloc (.cells zero21.toArray 51)).setCells wr.heap.size 0 L21.toArray.toList = W1 → Fr [] wr W1 ∧ W1.heap[wr.heap.size]? = some (.cells L21.toArray 51 (0, 0))) := Lib.hid fun W1 hW1 => call_new wr L21 hLlen (by rw [← hW1, List.toList_toArray])
          unfold zero21 at HW
          clear hca hall hv hLlen hL21
          go_upto_region 12 with (first
            | (refine wpList_load_mid rfl 51 _ rfl B (off + k * 21) rfl L21 _ hrg Try.underlying51 rfl hsz ?_)
            | (refine wpList_store_mid rfl 51 _ _ rfl wr.heap.size 0 L21.toArray rfl rfl hth hsz2 hone ?_
               obtain ⟨W1, hW1⟩ : ∃ W1, (wr.alloc (.cells #[.int .i64 0, .int .i64 0, .int .i64 0, .int .i64 0, .int .i64 0, nilV, nilV, nilV, nilV, .int .i64 0, .int .u64 0, .int .i64 0, .int .i64 0, .int .i64 0, .int .i64 0, .int .i64 0, .int .i64 0, nilV, nilV, .int .i64 0, .int .u8 0] 51)).setCells wr.heap.size 0 L21.toArray.toList = W1 := ⟨_, rfl⟩
               obtain ⟨f1, hbk⟩ := HW.out W1 hW1
               rw [hW1]
               clear hW1 hrg hsz hsz2 hone hth HW))
          rw [← HLE.out] at hbk
          unfold callL at hbk
          have HV : Hid (∀ W, Fr [] W1 W → W.heap[wr.heap.size]? = some (.cells #[.int .i64 c.kind, .int .i64 c.n, .int .i64 c.m, .int .i64 c.count, .int .i64 c.p.kind, .slice pa c.p.pairs.length pc, .slice ka c.p.keys.length kc, .slice da c.p.kids.length dc, .slice ga c.p.pages.length gc, .int .i64 c.p.next, .int .u64 c.p.epoch, .int .i64 c.p.root, .int .i64 c.p.depth, .int .i64 c.p.count, .int .i64 c.p.high, .int .i64 d0, .int .i64 d1, .slice xa xl xc, .slice ya yl yc, .int .i64 d4, .int .u8 d5] 51 (0, 0))) := Lib.hid fun W hf => hf.heap hbk (by simp)
          have HF1 := Lib.hid f1
          have c0 := blk_cell hbk 0
          have c1 := blk_cell hbk 1
          have c2 := blk_cell hbk 2
          have c3 := blk_cell hbk 3
          have c4 := blk_cell hbk 4
          have c5 := blk_cell hbk 5
          have c6 := blk_cell hbk 6
          have c7 := blk_cell hbk 7
          have c8 := blk_cell hbk 8
          have c9 := blk_cell hbk 9
          have c10 := blk_cell hbk 10
          have c11 := blk_cell hbk 11
          have c12 := blk_cell hbk 12
          have c13 := blk_cell hbk 13
          have c14 := blk_cell hbk 14
          simp only [List.getElem?_toArray, List.getElem?_cons_zero, List.getElem?_cons_succ] at c0 c1 c2 c3 c4 c5 c6 c7 c8 c9 c10 c11 c12 c13 c14
          clear f1 hbk
          have HPG1 := Lib.hid (PageIn.at (S' := []) HCA.out.page ((HAT.out.mine.fr.trans HF1.out).nil) (by simp))
          go_wp2_with fail
          refine (few_k (S := []) (p := c.p) W1 ⟨_, _, _, _, rfl, HPG1.out⟩ rfl).mono ?_
          rintro e w2 ⟨rfl, hf2⟩
          have HV2 : Hid (∀ W, Fr [] w2 W → W.heap[wr.heap.size]? = some (.cells #[.int .i64 c.kind, .int .i64 c.n, .int .i64 c.m, .int .i64 c.count, .int .i64 c.p.kind, .slice pa c.p.pairs.length pc, .slice ka c.p.keys.length kc, .slice da c.p.kids.length dc, .slice ga c.p.pages.length gc, .int .i64 c.p.next, .int .u64 c.p.epoch, .int .i64 c.p.root, .int .i64 c.p.depth, .int .i64 c.p.count, .int .i64 c.p.high, .int .i64 d0, .int .i64 d1, .slice xa xl xc, .slice ya yl yc, .int .i64 d4, .int .u8 d5] 51 (0, 0))) := Lib.hid fun W hf => HV.out W (hf2.trans hf)
          have HM2 := Lib.hid (HAT.out.mine.kept (HF1.out.trans hf2))
          have HZ2 : Hid (W1.heap.size ≤ w2.heap.size) := Lib.hid hf2.size
          have HPG2 := Lib.hid (PageIn.at (S' := [sb, fm1, b, ml, mc]) HCA.out.page HM2.out.fr.nil (fun x hx => by
            have h1 := HM2.out.lo
            simp only [List.mem_cons, List.not_mem_nil, or_false] at hx
            rcases hx with h | h | h | h | h <;> exact .inr (by omega)))
          have HWF := Lib.hid HCA.out.wf
          have HOK := Lib.hid (HAT.out.live.run.good.ok HAT.out.live.calm.fine.n4)
          clear c0 c1 c2 c3 c4 c5 c6 c7 c8 c9 c10 c11 c12 c13 c14 hf2 HV
          by_cases hfw : fewB c.p = true
          · rw [hfw]
            go_wp2_with fail
            refine (super_s w2 HM2.out.sto).mono ?_
            rintro e w4 ⟨v, rfl, ⟨pv4, kv4, dv4, gv4, rfl, hi4⟩, hf4⟩
            obtain ⟨za, zc, zk, zl, zd, ze, zg, zh, rfl, rfl, rfl, rfl⟩ := hi4.bare HAT.out.live.bare
            unfold pageCells
            obtain ⟨W5, hW5⟩ : ∃ W5, w4.alloc (.cells #[.int .i64 E.super.kind, .slice za 0 zc, .slice zk 0 zl, .slice zd 0 ze, .slice zg 0 zh, .int .i64 E.super.next, .int .u64 E.super.epoch, .int .i64 E.super.root, .int .i64 E.super.depth, .int .i64 E.super.count, .int .i64 E.super.high] 43) = W5 := ⟨_, rfl⟩
            have f5 : Fr [] w4 W5 := by rw [← hW5]; exact Fr.alloc1 _ _
            have hb5 : W5.heap[w4.heap.size]? = some (.cells #[.int .i64 E.super.kind, .slice za 0 zc, .slice zk 0 zl, .slice zd 0 ze, .slice zg 0 zh, .int .i64 E.super.next, .int .u64 E.super.epoch, .int .i64 E.super.root, .int .i64 E.super.depth, .int .i64 E.super.count, .int .i64 E.super.high] 43 (0, 0)) := by rw [← hW5]; exact blk_new _ _
            have HE5 : Hid (∀ W, Fr [] W5 W → W.cell? ⟨w4.heap.size, 6, none⟩ = some (.int .u64 E.super.epoch)) := Lib.hid fun W hf => hf.cellSome (by rw [blk_cell hb5 6]; rfl) (by simp)
            have hv5 := HV2.out W5 (hf4.trans f5)
            have HV5 : Hid (∀ W, Fr [] W5 W → W.heap[wr.heap.size]? = some (.cells #[.int .i64 c.kind, .int .i64 c.n, .int .i64 c.m, .int .i64 c.count, .int .i64 c.p.kind, .slice pa c.p.pairs.length pc, .slice ka c.p.keys.length kc, .slice da c.p.kids.length dc, .slice ga c.p.pages.length gc, .int .i64 c.p.next, .int .u64 c.p.epoch, .int .i64 c.p.root, .int .i64 c.p.depth, .int .i64 c.p.count, .int .i64 c.p.high, .int .i64 d0, .int .i64 d1, .slice xa xl xc, .slice ya yl yc, .int .i64 d4, .int .u8 d5] 51 (0, 0))) := Lib.hid fun W hf => hf.heap hv5 (by simp)
            have HM5 := Lib.hid ((HM2.out.kept hf4).kept f5)
            have HPG5 := Lib.hid (HPG2.out.kept (hf4.trans f5).nil)
            have l0 := blk_cell hv5 0
            have l1 := blk_cell hv5 1
            have l2 := blk_cell hv5 2
            have l3 := blk_cell hv5 3
            have l4 := blk_cell hv5 4
            have l5 := blk_cell hv5 5
            have l6 := blk_cell hv5 6
            have l7 := blk_cell hv5 7
            have l8 := blk_cell hv5 8
            have l9 := blk_cell hv5 9
            have l10 := blk_cell hv5 10
            have l11 := blk_cell hv5 11
            have l12 := blk_cell hv5 12
            have l13 := blk_cell hv5 13
            have l14 := blk_cell hv5 14
            simp only [List.getElem?_toArray, List.getElem?_cons_zero, List.getElem?_cons_succ] at l0 l1 l2 l3 l4 l5 l6 l7 l8 l9 l10 l11 l12 l13 l14
            have HZ4 : Hid (wr.heap.size ≤ w4.heap.size) := Lib.hid (Nat.le_trans HF1.out.size (Nat.le_trans HZ2.out hf4.size))
            clear hi4 hf4 f5 hb5 hv5
            by_cases h1 : c.kind = 1
            · rw [h1] at l0
              clear h1
              go_wp2_with fail
              refine (lay_s c.n W5 HM5.out.sto HAT.out.live.run.good ⟨_, _, _, _, rfl, HPG5.out⟩ (fewB_small hfw) (u64_bd HWF.out.epoch).1 (u64_bd HWF.out.epoch).2).mono ?_
              rintro e w6 ⟨rfl, hr6⟩
              obtain ⟨fm6, hm6⟩ := HM5.out.next hr6
              have HN6 : Hid (EpAt W w6 sb b ml mc fm6 (E.lay c.n c.p).2.2 (1 + (k + 1 : Nat))) := Lib.hid (by
                have hst := (HAT.out.live.run.lay HAT.out.live.calm c.n c.p).1
                exact ⟨hm6, HAT.out.live.step hst, by rw [hst.super]; have := HAT.out.ep; omega⟩)
              clear hr6 hm6
              go_wp2
              go_roundw
              case rel => exact ⟨k + 1, fm6, _, by omega, by omega, by go_num, HN6.out⟩
              case measure => simp [intOf]; omega
            · by_cases h2 : c.kind = 2
              · rw [h2] at l0
                clear h1 h2
                go_wp2_with fail
                refine (sdrop_k c.n W5 HM5.out.sto HOK.out.1).mono ?_
                rintro e w6 ⟨rfl, hr6⟩
                obtain ⟨fm6, hm6⟩ := HM5.out.next hr6
                have HN6 : Hid (EpAt W w6 sb b ml mc fm6 (E.drop c.n).2 (1 + (k + 1 : Nat))) := Lib.hid (by
                  have hst := HAT.out.live.run.toDrop HAT.out.live.calm c.n
                  exact ⟨hm6, HAT.out.live.step hst, by rw [hst.super]; have := HAT.out.ep; omega⟩)
                clear hr6 hm6
                go_wp2
                go_roundw
                case rel => exact ⟨k + 1, fm6, _, by omega, by omega, by go_num, HN6.out⟩
                case measure => simp [intOf]; omega
              · by_cases h4 : c.kind = 4
                · rw [h4] at l0
                  clear h1 h2 h4
                  go_wp2_with fail
                  refine (commit_k c.n c.m c.count W5 HM5.out.sto HAT.out.live.run.good (by have := HAT.out.live.holds.ep; omega) (by have := HAT.out.live.holds.ep; omega) (by have := HAT.out.live.len; omega)).mono ?_
                  rintro e w6 ⟨rfl, hr6⟩
                  obtain ⟨fm6, hm6⟩ := HM5.out.next hr6
                  have hf6 : Fr [sb, fm1, b, ml, mc] W5 w6 := by obtain ⟨_, _, h, _⟩ := hr6; exact h
                  have hz := HAT.out.mine.sto.lt
                  have hz4 : wr.heap.size ≤ w4.heap.size := HZ4.out
                  have m1 := hf6.cellSome l1 (by simp only [List.mem_cons, List.not_mem_nil, or_false]; omega)
                  have m6 := hf6.cellSome (HE5.out W5 (Fr.refl _ _)) (by simp only [List.mem_cons, List.not_mem_nil, or_false]; omega)
                  have hcm := HAT.out.live.commit (by have := HAT.out.ep; omega) c.n c.m c.count
                  obtain ⟨⟨e2, T2⟩, hC⟩ : ∃ R, E.commit c.n c.m c.count = R := ⟨_, rfl⟩
                  rw [hC] at hcm hm6 ⊢
                  dsimp only at hcm hm6 ⊢
                  have HL2 : Hid T2.Live := Lib.hid (by
                    rcases hcm with ⟨_, h⟩ | ⟨_, h⟩
                    · exact HAT.out.live.step h
                    · exact h.live)
                  have HM6 := Lib.hid hm6
                  have HCM := Lib.hid hcm
                  clear hr6 hm6 hf6 hz hz4 hcm hC l0 l1 l2 l3 l4 l5 l6 l7 l8 l9 l10 l11 l12 l13 l14
                  go_wp2_with fail
                  refine (open_k w6 HM6.out.sto.dev (HL2.out.holds.flat HL2.out.calm.off HL2.out.calm.fine)).mono ?_
                  rw [HL2.out.open]
                  rintro e w7 ⟨hf7, h7⟩
                  have h7 := h7.resolve_left (fun h => by cases h.1)
                  obtain ⟨T5, sb5, fm5, hT5, _, _, rfl, hs5⟩ := h7
                  cases hT5
                  have HS5 := Lib.hid hs5
                  have HM7 := Lib.hid (HM6.out.kept hf7)
                  have n1 := hf7.cellSome m1 (by simp)
                  have n6 := hf7.cellSome m6 (by simp)
                  clear hs5 hf7 m1 m6
                  go_wp2_with fail
                  refine (super_s w7 HS5.out).mono ?_
                  rintro e w8 ⟨v8, rfl, hp8, hf8⟩
                  have HP8 := Lib.hid hp8
                  have HM8 := Lib.hid (HM7.out.kept hf8)
                  have o1 := hf8.cellSome n1 (by simp)
                  have o6 := hf8.cellSome n6 (by simp)
                  clear hp8 hf8 n1 n6
                  go_wp2_with fail
                  refine (super_s w8 HM8.out.sto).mono ?_
                  rintro e w9 ⟨v9, rfl, hp9, hf9⟩
                  have HP9 := Lib.hid hp9
                  have HQ8 : Hid (PageAt [] w9 v8 T2.super) := Lib.hid (by
                    obtain ⟨q1, q2, q3, q4, h, hi⟩ := HP8.out
                    exact ⟨q1, q2, q3, q4, h, (PageIn.at (S' := []) hi hf9.nil (by simp))⟩)
                  have HM9 := Lib.hid (HM8.out.kept hf9)
                  have p1 := hf9.cellSome o1 (by simp)
                  have p6 := hf9.cellSome o6 (by simp)
                  clear hp9 hf9 o1 o6
                  go_wp2_with fail
                  refine (same5_k w9 HQ8.out HP9.out HL2.out.bare HL2.out.bare (eqSuper_refl _)).mono ?_
                  rintro e wa ⟨rfl, hfa⟩
                  have HMA := Lib.hid (HM9.out.kept hfa)
                  have q1 := hfa.cellSome p1 (by simp)
                  have q6 := hfa.cellSome p6 (by simp)
                  clear hfa p1 p6
                  have HN6 : Hid (∀ w', Fr [] wa w' → EpAt W w' sb b ml mc fm6 T2 (1 + (k + 1 : Nat))) := Lib.hid fun w' hf => ⟨HMA.out.kept hf, HL2.out, by
                    have := HAT.out.ep
                    rcases HCM.out with ⟨_, h⟩ | ⟨_, h⟩
                    · rw [h.super]; omega
                    · rw [h.super]; show E.super.epoch + 1 ≤ _; omega⟩
                  have HSB : Hid (T2.super.bare) := Lib.hid HL2.out.bare
                  have hep0 := HAT.out.live.holds.ep
                  have hep1 := HAT.out.ep
                  have hkk : (k : Int) < 40 := hk4
                  have HST : Hid (∀ W, Fr [] wa W → StoAt W sb b ml mc fm6 T2) := Lib.hid fun W hf => (HMA.out.kept hf).sto
                  have HCL : Hid (∀ W, Fr [] wa W → W.cell? ⟨w4.heap.size, 6, none⟩ = some (.int .u64 E.super.epoch) ∧ W.cell? ⟨wr.heap.size, 1, none⟩ = some (.int .i64 c.n)) := Lib.hid fun W hf => ⟨hf.cellSome q6 (by simp), hf.cellSome q1 (by simp)⟩
                  go_upto_region 26 with fail
                  have HK0 := Lib.hid (HCL.out wa (Fr.refl _ _))
                  have HKD := Lib.hid (HCL.out wa.drew (Fr.refl [] wa).drew)
                  have HSD := Lib.hid (HST.out wa.drew (Fr.refl [] wa).drew)
                  rcases HCM.out with ⟨he2, hst⟩ | ⟨he2, htd⟩
                  · have hq : T2.super.epoch = E.super.epoch := by rw [hst.super]
                    clear hst
                    rcases he2 with rfl | rfl
                    · refine wp_region_held_drew (S := (fun w' : World => w'.cell? ⟨w4.heap.size, 6, none⟩ = some (.int .u64 E.super.epoch) ∧ w'.cell? ⟨wr.heap.size, 1, none⟩ = some (.int .i64 c.n))) (by kernel_rfl) HKD.out (fun hHeld => ?_)
                      refine wpAnyH_do (i := 0) (d := some 93) (.bool true) (by kernel_rfl) (by kernel_rfl) (by kernel_rfl) (by kernel_rfl) (by kernel_rfl) (fun _ _ _ h => h) ?_ (by assumption) ?_
                      · intro w o hSw ho
                        simp only [List.getElem?_toArray, List.getElem?_cons_zero, Option.some.injEq] at ho
                        subst ho
                        (try dsimp only at hSw)
                        go_simp
                      try simp only [Act.put, List.setIfInBounds_toArray, List.set_cons_zero, List.set_cons_succ]
                      refine wpAnyH_do (i := 1) (d := some 94) (.bool false) (by kernel_rfl) (by kernel_rfl) (by kernel_rfl) (by kernel_rfl) (by kernel_rfl) (fun _ _ _ h => h) ?_ (by assumption) ?_
                      · intro w o hSw ho
                        simp only [List.getElem?_toArray, List.getElem?_cons_succ, List.getElem?_cons_zero, Option.some.injEq] at ho
                        subst ho
                        (try dsimp only at hSw)
                        go_simp
                      try simp only [Act.put, List.setIfInBounds_toArray, List.set_cons_zero, List.set_cons_succ]
                      refine wpAnyH_do (i := 2) (d := some 95) (.bool false) (by kernel_rfl) (by kernel_rfl) (by kernel_rfl) (by kernel_rfl) (by kernel_rfl) (fun _ _ _ h => h) ?_ (by assumption) ?_
                      · intro w o hSw ho
                        simp only [List.getElem?_toArray, List.getElem?_cons_succ, List.getElem?_cons_zero, Option.some.injEq] at ho
                        subst ho
                        (try dsimp only at hSw)
                        go_simp
                      try simp only [Act.put, List.setIfInBounds_toArray, List.set_cons_zero, List.set_cons_succ]
                      refine wpAnyH_do (i := 3) (d := some 96) (.int .i64 50) (by kernel_rfl) (by kernel_rfl) (by kernel_rfl) (by kernel_rfl) (by kernel_rfl) (fun _ _ _ h => h) ?_ (by assumption) ?_
                      · intro w o hSw ho
                        simp only [List.getElem?_toArray, List.getElem?_cons_succ, List.getElem?_cons_zero, Option.some.injEq] at ho
                        subst ho
                        (try dsimp only at hSw)
                        go_simp
                      try simp only [Act.put, List.setIfInBounds_toArray, List.set_cons_zero, List.set_cons_succ]
                      refine wpAnyH_do (i := 4) (d := some 97) (.bool false) (by kernel_rfl) (by kernel_rfl) (by kernel_rfl) (by kernel_rfl) (by kernel_rfl) (fun _ _ _ h => h) ?_ (by assumption) ?_
                      · intro w o hSw ho
                        simp only [List.getElem?_toArray, List.getElem?_cons_succ, List.getElem?_cons_zero, Option.some.injEq] at ho
                        subst ho
                        (try dsimp only at hSw)
                        go_simp
                      try simp only [Act.put, List.setIfInBounds_toArray, List.set_cons_zero, List.set_cons_succ]
                      refine wpAnyH_do (i := 5) (d := some 98) (.bool false) (by kernel_rfl) (by kernel_rfl) (by kernel_rfl) (by kernel_rfl) (by kernel_rfl) (fun _ _ _ h => h) ?_ (by assumption) ?_
                      · intro w o hSw ho
                        simp only [List.getElem?_toArray, List.getElem?_cons_succ, List.getElem?_cons_zero, Option.some.injEq] at ho
                        subst ho
                        (try dsimp only at hSw)
                        go_simp
                      try simp only [Act.put, List.setIfInBounds_toArray, List.set_cons_zero, List.set_cons_succ]
                      refine wpAnyH_skip (i := 6) (d := some 99) (by kernel_rfl) (by kernel_rfl) (by kernel_rfl) (by kernel_rfl) (by kernel_rfl) (fun _ _ _ h => h) (by assumption) ?_
                      try simp only [Act.put, List.setIfInBounds_toArray, List.set_cons_zero, List.set_cons_succ]
                      refine wpAnyH_skip (i := 7) (d := some 100) (by kernel_rfl) (by kernel_rfl) (by kernel_rfl) (by kernel_rfl) (by kernel_rfl) (fun _ _ _ h => h) (by assumption) ?_
                      try simp only [Act.put, List.setIfInBounds_toArray, List.set_cons_zero, List.set_cons_succ]
                      refine wpAnyH_skip (i := 8) (d := some 101) (by kernel_rfl) (by kernel_rfl) (by kernel_rfl) (by kernel_rfl) (by kernel_rfl) (fun _ _ _ h => h) (by assumption) ?_
                      try simp only [Act.put, List.setIfInBounds_toArray, List.set_cons_zero, List.set_cons_succ]
                      refine wpAnyH_skip (i := 9) (d := some 102) (by kernel_rfl) (by kernel_rfl) (by kernel_rfl) (by kernel_rfl) (by kernel_rfl) (fun _ _ _ h => h) (by assumption) ?_
                      try simp only [Act.put, List.setIfInBounds_toArray, List.set_cons_zero, List.set_cons_succ]
                      refine wpAnyH_skip (i := 10) (d := some 103) (by kernel_rfl) (by kernel_rfl) (by kernel_rfl) (by kernel_rfl) (by kernel_rfl) (fun _ _ _ h => h) (by assumption) ?_
                      try simp only [Act.put, List.setIfInBounds_toArray, List.set_cons_zero, List.set_cons_succ]
                      refine wpAnyH_skip (i := 11) (d := some 104) (by kernel_rfl) (by kernel_rfl) (by kernel_rfl) (by kernel_rfl) (by kernel_rfl) (fun _ _ _ h => h) (by assumption) ?_
                      try simp only [Act.put, List.setIfInBounds_toArray, List.set_cons_zero, List.set_cons_succ]
                      refine wpAnyH_skip (i := 12) (d := some 105) (by kernel_rfl) (by kernel_rfl) (by kernel_rfl) (by kernel_rfl) (by kernel_rfl) (fun _ _ _ h => h) (by assumption) ?_
                      try simp only [Act.put, List.setIfInBounds_toArray, List.set_cons_zero, List.set_cons_succ]
                      refine wpAnyH_skip (i := 13) (d := some 106) (by kernel_rfl) (by kernel_rfl) (by kernel_rfl) (by kernel_rfl) (by kernel_rfl) (fun _ _ _ h => h) (by assumption) ?_
                      try simp only [Act.put, List.setIfInBounds_toArray, List.set_cons_zero, List.set_cons_succ]
                      refine wpAnyH_skip (i := 14) (d := some 107) (by kernel_rfl) (by kernel_rfl) (by kernel_rfl) (by kernel_rfl) (by kernel_rfl) (fun _ _ _ h => h) (by assumption) ?_
                      try simp only [Act.put, List.setIfInBounds_toArray, List.set_cons_zero, List.set_cons_succ]
                      refine wpAnyH_skip (i := 15) (d := some 108) (by kernel_rfl) (by kernel_rfl) (by kernel_rfl) (by kernel_rfl) (by kernel_rfl) (fun _ _ _ h => h) (by assumption) ?_
                      try simp only [Act.put, List.setIfInBounds_toArray, List.set_cons_zero, List.set_cons_succ]
                      refine wpAnyH_skip (i := 16) (d := some 109) (by kernel_rfl) (by kernel_rfl) (by kernel_rfl) (by kernel_rfl) (by kernel_rfl) (fun _ _ _ h => h) (by assumption) ?_
                      try simp only [Act.put, List.setIfInBounds_toArray, List.set_cons_zero, List.set_cons_succ]
                      refine wpAnyH_skip (i := 17) (d := some 110) (by kernel_rfl) (by kernel_rfl) (by kernel_rfl) (by kernel_rfl) (by kernel_rfl) (fun _ _ _ h => h) (by assumption) ?_
                      try simp only [Act.put, List.setIfInBounds_toArray, List.set_cons_zero, List.set_cons_succ]
                      refine wpAnyH_skip (i := 18) (d := some 111) (by kernel_rfl) (by kernel_rfl) (by kernel_rfl) (by kernel_rfl) (by kernel_rfl) (fun _ _ _ h => h) (by assumption) ?_
                      try simp only [Act.put, List.setIfInBounds_toArray, List.set_cons_zero, List.set_cons_succ]
                      refine wpAnyH_skip (i := 19) (d := some 112) (by kernel_rfl) (by kernel_rfl) (by kernel_rfl) (by kernel_rfl) (by kernel_rfl) (fun _ _ _ h => h) (by assumption) ?_
                      try simp only [Act.put, List.setIfInBounds_toArray, List.set_cons_zero, List.set_cons_succ]
                      refine wpAnyH_skip (i := 20) (d := some 113) (by kernel_rfl) (by kernel_rfl) (by kernel_rfl) (by kernel_rfl) (by kernel_rfl) (fun _ _ _ h => h) (by assumption) ?_
                      try simp only [Act.put, List.setIfInBounds_toArray, List.set_cons_zero, List.set_cons_succ]
                      refine wpAnyH_do (i := 21) (d := some 114) (.bool false) (by kernel_rfl) (by kernel_rfl) (by kernel_rfl) (by kernel_rfl) (by kernel_rfl) (fun _ _ _ h => h) ?_ (by assumption) ?_
                      · intro w o hSw ho
                        simp only [List.getElem?_toArray, List.getElem?_cons_succ, List.getElem?_cons_zero, Option.some.injEq] at ho
                        subst ho
                        (try dsimp only at hSw)
                        go_simp
                      try simp only [Act.put, List.setIfInBounds_toArray, List.set_cons_zero, List.set_cons_succ]
                      refine wpAnyH_do (i := 22) (d := some 115) (.bool false) (by kernel_rfl) (by kernel_rfl) (by kernel_rfl) (by kernel_rfl) (by kernel_rfl) (fun _ _ _ h => h) ?_ (by assumption) ?_
                      · intro w o hSw ho
                        simp only [List.getElem?_toArray, List.getElem?_cons_succ, List.getElem?_cons_zero, Option.some.injEq] at ho
                        subst ho
                        (try dsimp only at hSw)
                        go_simp
                      try simp only [Act.put, List.setIfInBounds_toArray, List.set_cons_zero, List.set_cons_succ]
                      refine wpAnyH_do (i := 23) (d := some 116) (.bool false) (by kernel_rfl) (by kernel_rfl) (by kernel_rfl) (by kernel_rfl) (by kernel_rfl) (fun _ _ _ h => h) ?_ (by assumption) ?_
                      · intro w o hSw ho
                        simp only [List.getElem?_toArray, List.getElem?_cons_succ, List.getElem?_cons_zero, Option.some.injEq] at ho
                        subst ho
                        (try dsimp only at hSw)
                        go_simp
                      try simp only [Act.put, List.setIfInBounds_toArray, List.set_cons_zero, List.set_cons_succ]
                      refine wpAnyH_do (i := 24) (d := some 117) (.int .i64 50) (by kernel_rfl) (by kernel_rfl) (by kernel_rfl) (by kernel_rfl) (by kernel_rfl) (fun _ _ _ h => h) ?_ (by assumption) ?_
                      · intro w o hSw ho
                        simp only [List.getElem?_toArray, List.getElem?_cons_succ, List.getElem?_cons_zero, Option.some.injEq] at ho
                        subst ho
                        (try dsimp only at hSw)
                        go_simp
                      try simp only [Act.put, List.setIfInBounds_toArray, List.set_cons_zero, List.set_cons_succ]
                      refine wpAnyH_do (i := 25) (d := some 118) (.bool true) (by kernel_rfl) (by kernel_rfl) (by kernel_rfl) (by kernel_rfl) (by kernel_rfl) (fun _ _ _ h => h) ?_ (by assumption) ?_
                      · intro w o hSw ho
                        simp only [List.getElem?_toArray, List.getElem?_cons_succ, List.getElem?_cons_zero, Option.some.injEq] at ho
                        subst ho
                        (try dsimp only at hSw)
                        go_simp
                      try simp only [Act.put, List.setIfInBounds_toArray, List.set_cons_zero, List.set_cons_succ]
                      refine wpAnyH_do (i := 26) (d := some 119) (.bool true) (by kernel_rfl) (by kernel_rfl) (by kernel_rfl) (by kernel_rfl) (by kernel_rfl) (fun _ _ _ h => h) ?_ (by assumption) ?_
                      · intro w o hSw ho
                        simp only [List.getElem?_toArray, List.getElem?_cons_succ, List.getElem?_cons_zero, Option.some.injEq] at ho
                        subst ho
                        (try dsimp only at hSw)
                        go_simp
                      try simp only [Act.put, List.setIfInBounds_toArray, List.set_cons_zero, List.set_cons_succ]
                      refine wpAnyH_do (i := 27) (d := some 120) (.pointer (some ⟨sb, 0, none⟩)) (by kernel_rfl) (by kernel_rfl) (by kernel_rfl) (by kernel_rfl) (by kernel_rfl) (fun _ _ _ h => h) ?_ (by assumption) ?_
                      · intro w o hSw ho
                        simp only [List.getElem?_toArray, List.getElem?_cons_succ, List.getElem?_cons_zero, Option.some.injEq] at ho
                        subst ho
                        (try dsimp only at hSw)
                        go_simp
                      try simp only [Act.put, List.setIfInBounds_toArray, List.set_cons_zero, List.set_cons_succ]
                      refine wpAnyH_do (i := 30) (d := some 123) (.pointer (some ⟨w4.heap.size, 6, none⟩)) (by kernel_rfl) (by kernel_rfl) (by kernel_rfl) (by kernel_rfl) (by kernel_rfl) (fun _ _ _ h => h) ?_ (by assumption) ?_
                      · intro w o hSw ho
                        simp only [List.getElem?_toArray, List.getElem?_cons_succ, List.getElem?_cons_zero, Option.some.injEq] at ho
                        subst ho
                        (try dsimp only at hSw)
                        go_simp
                      try simp only [Act.put, List.setIfInBounds_toArray, List.set_cons_zero, List.set_cons_succ]
                      refine wpAnyH_do (i := 31) (d := some 124) (.int .u64 E.super.epoch) (by kernel_rfl) (by kernel_rfl) (by kernel_rfl) (by kernel_rfl) (by kernel_rfl) (fun _ _ _ h => h) ?_ (by assumption) ?_
                      · intro w o hSw ho
                        simp only [List.getElem?_toArray, List.getElem?_cons_succ, List.getElem?_cons_zero, Option.some.injEq] at ho
                        subst ho
                        (try dsimp only at hSw)
                        go_simp
                      try simp only [Act.put, List.setIfInBounds_toArray, List.set_cons_zero, List.set_cons_succ]
                      refine wpAnyH_call (i := 28) (by kernel_rfl) (fun K hK o ho => ?_)
                      simp only [List.getElem?_toArray, List.getElem?_cons_succ, List.getElem?_cons_zero, Option.some.injEq] at ho
                      subst ho
                      go_simp
                      go_at_call 19
                      refine (super_s wa.drew HSD.out).mono ?_
                      intro e wb hcall
                      obtain ⟨vsup, rfl, ⟨xp, xk, xd, xg, rfl, _⟩, hfcall⟩ := hcall
                      unfold pageCells
                      rw [hq]
                      have hfb' := (Fr.refl [] wa).drew.trans hfcall
                      have HFB := Lib.hid hfb'
                      have HKB := Lib.hid (HCL.out wb hfb')
                      clear hfcall hfb'
                      go_wp2_with fail
                      refine hK.out _ _ HKB.out (fun hHeld => ?_)
                      clear hK
                      try simp only [Act.put, List.setIfInBounds_toArray, List.set_cons_zero, List.set_cons_succ]
                      refine wpAnyH_do (i := 29) (d := some 122) (.int .u64 E.super.epoch) (by kernel_rfl) (by kernel_rfl) (by kernel_rfl) (by kernel_rfl) (by kernel_rfl) (fun _ _ _ h => h) ?_ (by assumption) ?_
                      · intro w o hSw ho
                        simp only [List.getElem?_toArray, List.getElem?_cons_succ, List.getElem?_cons_zero, Option.some.injEq] at ho
                        subst ho
                        (try dsimp only at hSw)
                        go_simp
                      try simp only [Act.put, List.setIfInBounds_toArray, List.set_cons_zero, List.set_cons_succ]
                      refine wpAnyH_do (i := 32) (d := some 125) (.bool false) (by kernel_rfl) (by kernel_rfl) (by kernel_rfl) (by kernel_rfl) (by kernel_rfl) (fun _ _ _ h => h) ?_ (by assumption) ?_
                      · intro w o hSw ho
                        simp only [List.getElem?_toArray, List.getElem?_cons_succ, List.getElem?_cons_zero, Option.some.injEq] at ho
                        subst ho
                        (try dsimp only at hSw)
                        go_simp
                      try simp only [Act.put, List.setIfInBounds_toArray, List.set_cons_zero, List.set_cons_succ]
                      refine wpAnyH_do (i := 33) (d := some 126) (.bool false) (by kernel_rfl) (by kernel_rfl) (by kernel_rfl) (by kernel_rfl) (by kernel_rfl) (fun _ _ _ h => h) ?_ (by assumption) ?_
                      · intro w o hSw ho
                        simp only [List.getElem?_toArray, List.getElem?_cons_succ, List.getElem?_cons_zero, Option.some.injEq] at ho
                        subst ho
                        (try dsimp only at hSw)
                        go_simp
                      try simp only [Act.put, List.setIfInBounds_toArray, List.set_cons_zero, List.set_cons_succ]
                      refine wpAnyH_do (i := 34) (d := some 127) (.bool false) (by kernel_rfl) (by kernel_rfl) (by kernel_rfl) (by kernel_rfl) (by kernel_rfl) (fun _ _ _ h => h) ?_ (by assumption) ?_
                      · intro w o hSw ho
                        simp only [List.getElem?_toArray, List.getElem?_cons_succ, List.getElem?_cons_zero, Option.some.injEq] at ho
                        subst ho
                        (try dsimp only at hSw)
                        go_simp
                      try simp only [Act.put, List.setIfInBounds_toArray, List.set_cons_zero, List.set_cons_succ]
                      refine wpAnyH_done (by kernel_rfl) ?_ _
                      have HZZ := Lib.hid (HN6.out wb HFB.out)
                      go_wp2_with fail
                      go_roundw
                      case rel => exact ⟨k + 1, fm6, _, by omega, by omega, by go_num, HZZ.out⟩
                      case measure => simp [intOf]; omega
                    · refine wp_region_held_drew (S := (fun w' : World => w'.cell? ⟨w4.heap.size, 6, none⟩ = some (.int .u64 E.super.epoch) ∧ w'.cell? ⟨wr.heap.size, 1, none⟩ = some (.int .i64 c.n))) (by kernel_rfl) HKD.out (fun hHeld => ?_)
                      refine wpAnyH_do (i := 0) (d := some 93) (.bool true) (by kernel_rfl) (by kernel_rfl) (by kernel_rfl) (by kernel_rfl) (by kernel_rfl) (fun _ _ _ h => h) ?_ (by assumption) ?_
                      · intro w o hSw ho
                        simp only [List.getElem?_toArray, List.getElem?_cons_zero, Option.some.injEq] at ho
                        subst ho
                        (try dsimp only at hSw)
                        go_simp
                      try simp only [Act.put, List.setIfInBounds_toArray, List.set_cons_zero, List.set_cons_succ]
                      refine wpAnyH_do (i := 1) (d := some 94) (.bool false) (by kernel_rfl) (by kernel_rfl) (by kernel_rfl) (by kernel_rfl) (by kernel_rfl) (fun _ _ _ h => h) ?_ (by assumption) ?_
                      · intro w o hSw ho
                        simp only [List.getElem?_toArray, List.getElem?_cons_succ, List.getElem?_cons_zero, Option.some.injEq] at ho
                        subst ho
                        (try dsimp only at hSw)
                        go_simp
                      try simp only [Act.put, List.setIfInBounds_toArray, List.set_cons_zero, List.set_cons_succ]
                      refine wpAnyH_do (i := 2) (d := some 95) (.bool false) (by kernel_rfl) (by kernel_rfl) (by kernel_rfl) (by kernel_rfl) (by kernel_rfl) (fun _ _ _ h => h) ?_ (by assumption) ?_
                      · intro w o hSw ho
                        simp only [List.getElem?_toArray, List.getElem?_cons_succ, List.getElem?_cons_zero, Option.some.injEq] at ho
                        subst ho
                        (try dsimp only at hSw)
                        go_simp
                      try simp only [Act.put, List.setIfInBounds_toArray, List.set_cons_zero, List.set_cons_succ]
                      refine wpAnyH_do (i := 3) (d := some 96) (.int .i64 60) (by kernel_rfl) (by kernel_rfl) (by kernel_rfl) (by kernel_rfl) (by kernel_rfl) (fun _ _ _ h => h) ?_ (by assumption) ?_
                      · intro w o hSw ho
                        simp only [List.getElem?_toArray, List.getElem?_cons_succ, List.getElem?_cons_zero, Option.some.injEq] at ho
                        subst ho
                        (try dsimp only at hSw)
                        go_simp
                      try simp only [Act.put, List.setIfInBounds_toArray, List.set_cons_zero, List.set_cons_succ]
                      refine wpAnyH_do (i := 4) (d := some 97) (.bool false) (by kernel_rfl) (by kernel_rfl) (by kernel_rfl) (by kernel_rfl) (by kernel_rfl) (fun _ _ _ h => h) ?_ (by assumption) ?_
                      · intro w o hSw ho
                        simp only [List.getElem?_toArray, List.getElem?_cons_succ, List.getElem?_cons_zero, Option.some.injEq] at ho
                        subst ho
                        (try dsimp only at hSw)
                        go_simp
                      try simp only [Act.put, List.setIfInBounds_toArray, List.set_cons_zero, List.set_cons_succ]
                      refine wpAnyH_do (i := 5) (d := some 98) (.bool false) (by kernel_rfl) (by kernel_rfl) (by kernel_rfl) (by kernel_rfl) (by kernel_rfl) (fun _ _ _ h => h) ?_ (by assumption) ?_
                      · intro w o hSw ho
                        simp only [List.getElem?_toArray, List.getElem?_cons_succ, List.getElem?_cons_zero, Option.some.injEq] at ho
                        subst ho
                        (try dsimp only at hSw)
                        go_simp
                      try simp only [Act.put, List.setIfInBounds_toArray, List.set_cons_zero, List.set_cons_succ]
                      refine wpAnyH_skip (i := 6) (d := some 99) (by kernel_rfl) (by kernel_rfl) (by kernel_rfl) (by kernel_rfl) (by kernel_rfl) (fun _ _ _ h => h) (by assumption) ?_
                      try simp only [Act.put, List.setIfInBounds_toArray, List.set_cons_zero, List.set_cons_succ]
                      refine wpAnyH_skip (i := 7) (d := some 100) (by kernel_rfl) (by kernel_rfl) (by kernel_rfl) (by kernel_rfl) (by kernel_rfl) (fun _ _ _ h => h) (by assumption) ?_
                      try simp only [Act.put, List.setIfInBounds_toArray, List.set_cons_zero, List.set_cons_succ]
                      refine wpAnyH_skip (i := 8) (d := some 101) (by kernel_rfl) (by kernel_rfl) (by kernel_rfl) (by kernel_rfl) (by kernel_rfl) (fun _ _ _ h => h) (by assumption) ?_
                      try simp only [Act.put, List.setIfInBounds_toArray, List.set_cons_zero, List.set_cons_succ]
                      refine wpAnyH_skip (i := 9) (d := some 102) (by kernel_rfl) (by kernel_rfl) (by kernel_rfl) (by kernel_rfl) (by kernel_rfl) (fun _ _ _ h => h) (by assumption) ?_
                      try simp only [Act.put, List.setIfInBounds_toArray, List.set_cons_zero, List.set_cons_succ]
                      refine wpAnyH_skip (i := 10) (d := some 103) (by kernel_rfl) (by kernel_rfl) (by kernel_rfl) (by kernel_rfl) (by kernel_rfl) (fun _ _ _ h => h) (by assumption) ?_
                      try simp only [Act.put, List.setIfInBounds_toArray, List.set_cons_zero, List.set_cons_succ]
                      refine wpAnyH_skip (i := 11) (d := some 104) (by kernel_rfl) (by kernel_rfl) (by kernel_rfl) (by kernel_rfl) (by kernel_rfl) (fun _ _ _ h => h) (by assumption) ?_
                      try simp only [Act.put, List.setIfInBounds_toArray, List.set_cons_zero, List.set_cons_succ]
                      refine wpAnyH_skip (i := 12) (d := some 105) (by kernel_rfl) (by kernel_rfl) (by kernel_rfl) (by kernel_rfl) (by kernel_rfl) (fun _ _ _ h => h) (by assumption) ?_
                      try simp only [Act.put, List.setIfInBounds_toArray, List.set_cons_zero, List.set_cons_succ]
                      refine wpAnyH_skip (i := 13) (d := some 106) (by kernel_rfl) (by kernel_rfl) (by kernel_rfl) (by kernel_rfl) (by kernel_rfl) (fun _ _ _ h => h) (by assumption) ?_
                      try simp only [Act.put, List.setIfInBounds_toArray, List.set_cons_zero, List.set_cons_succ]
                      refine wpAnyH_skip (i := 14) (d := some 107) (by kernel_rfl) (by kernel_rfl) (by kernel_rfl) (by kernel_rfl) (by kernel_rfl) (fun _ _ _ h => h) (by assumption) ?_
                      try simp only [Act.put, List.setIfInBounds_toArray, List.set_cons_zero, List.set_cons_succ]
                      refine wpAnyH_skip (i := 15) (d := some 108) (by kernel_rfl) (by kernel_rfl) (by kernel_rfl) (by kernel_rfl) (by kernel_rfl) (fun _ _ _ h => h) (by assumption) ?_
                      try simp only [Act.put, List.setIfInBounds_toArray, List.set_cons_zero, List.set_cons_succ]
                      refine wpAnyH_skip (i := 16) (d := some 109) (by kernel_rfl) (by kernel_rfl) (by kernel_rfl) (by kernel_rfl) (by kernel_rfl) (fun _ _ _ h => h) (by assumption) ?_
                      try simp only [Act.put, List.setIfInBounds_toArray, List.set_cons_zero, List.set_cons_succ]
                      refine wpAnyH_skip (i := 17) (d := some 110) (by kernel_rfl) (by kernel_rfl) (by kernel_rfl) (by kernel_rfl) (by kernel_rfl) (fun _ _ _ h => h) (by assumption) ?_
                      try simp only [Act.put, List.setIfInBounds_toArray, List.set_cons_zero, List.set_cons_succ]
                      refine wpAnyH_skip (i := 18) (d := some 111) (by kernel_rfl) (by kernel_rfl) (by kernel_rfl) (by kernel_rfl) (by kernel_rfl) (fun _ _ _ h => h) (by assumption) ?_
                      try simp only [Act.put, List.setIfInBounds_toArray, List.set_cons_zero, List.set_cons_succ]
                      refine wpAnyH_skip (i := 19) (d := some 112) (by kernel_rfl) (by kernel_rfl) (by kernel_rfl) (by kernel_rfl) (by kernel_rfl) (fun _ _ _ h => h) (by assumption) ?_
                      try simp only [Act.put, List.setIfInBounds_toArray, List.set_cons_zero, List.set_cons_succ]
                      refine wpAnyH_skip (i := 20) (d := some 113) (by kernel_rfl) (by kernel_rfl) (by kernel_rfl) (by kernel_rfl) (by kernel_rfl) (fun _ _ _ h => h) (by assumption) ?_
                      try simp only [Act.put, List.setIfInBounds_toArray, List.set_cons_zero, List.set_cons_succ]
                      refine wpAnyH_do (i := 21) (d := some 114) (.bool false) (by kernel_rfl) (by kernel_rfl) (by kernel_rfl) (by kernel_rfl) (by kernel_rfl) (fun _ _ _ h => h) ?_ (by assumption) ?_
                      · intro w o hSw ho
                        simp only [List.getElem?_toArray, List.getElem?_cons_succ, List.getElem?_cons_zero, Option.some.injEq] at ho
                        subst ho
                        (try dsimp only at hSw)
                        go_simp
                      try simp only [Act.put, List.setIfInBounds_toArray, List.set_cons_zero, List.set_cons_succ]
                      refine wpAnyH_do (i := 22) (d := some 115) (.bool false) (by kernel_rfl) (by kernel_rfl) (by kernel_rfl) (by kernel_rfl) (by kernel_rfl) (fun _ _ _ h => h) ?_ (by assumption) ?_
                      · intro w o hSw ho
                        simp only [List.getElem?_toArray, List.getElem?_cons_succ, List.getElem?_cons_zero, Option.some.injEq] at ho
                        subst ho
                        (try dsimp only at hSw)
                        go_simp
                      try simp only [Act.put, List.setIfInBounds_toArray, List.set_cons_zero, List.set_cons_succ]
                      refine wpAnyH_do (i := 23) (d := some 116) (.bool false) (by kernel_rfl) (by kernel_rfl) (by kernel_rfl) (by kernel_rfl) (by kernel_rfl) (fun _ _ _ h => h) ?_ (by assumption) ?_
                      · intro w o hSw ho
                        simp only [List.getElem?_toArray, List.getElem?_cons_succ, List.getElem?_cons_zero, Option.some.injEq] at ho
                        subst ho
                        (try dsimp only at hSw)
                        go_simp
                      try simp only [Act.put, List.setIfInBounds_toArray, List.set_cons_zero, List.set_cons_succ]
                      refine wpAnyH_do (i := 24) (d := some 117) (.int .i64 60) (by kernel_rfl) (by kernel_rfl) (by kernel_rfl) (by kernel_rfl) (by kernel_rfl) (fun _ _ _ h => h) ?_ (by assumption) ?_
                      · intro w o hSw ho
                        simp only [List.getElem?_toArray, List.getElem?_cons_succ, List.getElem?_cons_zero, Option.some.injEq] at ho
                        subst ho
                        (try dsimp only at hSw)
                        go_simp
                      try simp only [Act.put, List.setIfInBounds_toArray, List.set_cons_zero, List.set_cons_succ]
                      refine wpAnyH_do (i := 25) (d := some 118) (.bool true) (by kernel_rfl) (by kernel_rfl) (by kernel_rfl) (by kernel_rfl) (by kernel_rfl) (fun _ _ _ h => h) ?_ (by assumption) ?_
                      · intro w o hSw ho
                        simp only [List.getElem?_toArray, List.getElem?_cons_succ, List.getElem?_cons_zero, Option.some.injEq] at ho
                        subst ho
                        (try dsimp only at hSw)
                        go_simp
                      try simp only [Act.put, List.setIfInBounds_toArray, List.set_cons_zero, List.set_cons_succ]
                      refine wpAnyH_do (i := 26) (d := some 119) (.bool true) (by kernel_rfl) (by kernel_rfl) (by kernel_rfl) (by kernel_rfl) (by kernel_rfl) (fun _ _ _ h => h) ?_ (by assumption) ?_
                      · intro w o hSw ho
                        simp only [List.getElem?_toArray, List.getElem?_cons_succ, List.getElem?_cons_zero, Option.some.injEq] at ho
                        subst ho
                        (try dsimp only at hSw)
                        go_simp
                      try simp only [Act.put, List.setIfInBounds_toArray, List.set_cons_zero, List.set_cons_succ]
                      refine wpAnyH_do (i := 27) (d := some 120) (.pointer (some ⟨sb, 0, none⟩)) (by kernel_rfl) (by kernel_rfl) (by kernel_rfl) (by kernel_rfl) (by kernel_rfl) (fun _ _ _ h => h) ?_ (by assumption) ?_
                      · intro w o hSw ho
                        simp only [List.getElem?_toArray, List.getElem?_cons_succ, List.getElem?_cons_zero, Option.some.injEq] at ho
                        subst ho
                        (try dsimp only at hSw)
                        go_simp
                      try simp only [Act.put, List.setIfInBounds_toArray, List.set_cons_zero, List.set_cons_succ]
                      refine wpAnyH_do (i := 30) (d := some 123) (.pointer (some ⟨w4.heap.size, 6, none⟩)) (by kernel_rfl) (by kernel_rfl) (by kernel_rfl) (by kernel_rfl) (by kernel_rfl) (fun _ _ _ h => h) ?_ (by assumption) ?_
                      · intro w o hSw ho
                        simp only [List.getElem?_toArray, List.getElem?_cons_succ, List.getElem?_cons_zero, Option.some.injEq] at ho
                        subst ho
                        (try dsimp only at hSw)
                        go_simp
                      try simp only [Act.put, List.setIfInBounds_toArray, List.set_cons_zero, List.set_cons_succ]
                      refine wpAnyH_do (i := 31) (d := some 124) (.int .u64 E.super.epoch) (by kernel_rfl) (by kernel_rfl) (by kernel_rfl) (by kernel_rfl) (by kernel_rfl) (fun _ _ _ h => h) ?_ (by assumption) ?_
                      · intro w o hSw ho
                        simp only [List.getElem?_toArray, List.getElem?_cons_succ, List.getElem?_cons_zero, Option.some.injEq] at ho
                        subst ho
                        (try dsimp only at hSw)
                        go_simp
                      try simp only [Act.put, List.setIfInBounds_toArray, List.set_cons_zero, List.set_cons_succ]
                      refine wpAnyH_call (i := 28) (by kernel_rfl) (fun K hK o ho => ?_)
                      simp only [List.getElem?_toArray, List.getElem?_cons_succ, List.getElem?_cons_zero, Option.some.injEq] at ho
                      subst ho
                      go_simp
                      go_at_call 19
                      refine (super_s wa.drew HSD.out).mono ?_
                      intro e wb hcall
                      obtain ⟨vsup, rfl, ⟨xp, xk, xd, xg, rfl, _⟩, hfcall⟩ := hcall
                      unfold pageCells
                      rw [hq]
                      have hfb' := (Fr.refl [] wa).drew.trans hfcall
                      have HFB := Lib.hid hfb'
                      have HKB := Lib.hid (HCL.out wb hfb')
                      clear hfcall hfb'
                      go_wp2_with fail
                      refine hK.out _ _ HKB.out (fun hHeld => ?_)
                      clear hK
                      try simp only [Act.put, List.setIfInBounds_toArray, List.set_cons_zero, List.set_cons_succ]
                      refine wpAnyH_do (i := 29) (d := some 122) (.int .u64 E.super.epoch) (by kernel_rfl) (by kernel_rfl) (by kernel_rfl) (by kernel_rfl) (by kernel_rfl) (fun _ _ _ h => h) ?_ (by assumption) ?_
                      · intro w o hSw ho
                        simp only [List.getElem?_toArray, List.getElem?_cons_succ, List.getElem?_cons_zero, Option.some.injEq] at ho
                        subst ho
                        (try dsimp only at hSw)
                        go_simp
                      try simp only [Act.put, List.setIfInBounds_toArray, List.set_cons_zero, List.set_cons_succ]
                      refine wpAnyH_do (i := 32) (d := some 125) (.bool false) (by kernel_rfl) (by kernel_rfl) (by kernel_rfl) (by kernel_rfl) (by kernel_rfl) (fun _ _ _ h => h) ?_ (by assumption) ?_
                      · intro w o hSw ho
                        simp only [List.getElem?_toArray, List.getElem?_cons_succ, List.getElem?_cons_zero, Option.some.injEq] at ho
                        subst ho
                        (try dsimp only at hSw)
                        go_simp
                      try simp only [Act.put, List.setIfInBounds_toArray, List.set_cons_zero, List.set_cons_succ]
                      refine wpAnyH_do (i := 33) (d := some 126) (.bool false) (by kernel_rfl) (by kernel_rfl) (by kernel_rfl) (by kernel_rfl) (by kernel_rfl) (fun _ _ _ h => h) ?_ (by assumption) ?_
                      · intro w o hSw ho
                        simp only [List.getElem?_toArray, List.getElem?_cons_succ, List.getElem?_cons_zero, Option.some.injEq] at ho
                        subst ho
                        (try dsimp only at hSw)
                        go_simp
                      try simp only [Act.put, List.setIfInBounds_toArray, List.set_cons_zero, List.set_cons_succ]
                      refine wpAnyH_do (i := 34) (d := some 127) (.bool false) (by kernel_rfl) (by kernel_rfl) (by kernel_rfl) (by kernel_rfl) (by kernel_rfl) (fun _ _ _ h => h) ?_ (by assumption) ?_
                      · intro w o hSw ho
                        simp only [List.getElem?_toArray, List.getElem?_cons_succ, List.getElem?_cons_zero, Option.some.injEq] at ho
                        subst ho
                        (try dsimp only at hSw)
                        go_simp
                      try simp only [Act.put, List.setIfInBounds_toArray, List.set_cons_zero, List.set_cons_succ]
                      refine wpAnyH_done (by kernel_rfl) ?_ _
                      have HZZ := Lib.hid (HN6.out wb HFB.out)
                      go_wp2_with fail
                      go_roundw
                      case rel => exact ⟨k + 1, fm6, _, by omega, by omega, by go_num, HZZ.out⟩
                      case measure => simp [intOf]; omega
                  · subst he2
                    have hq : T2.super.epoch = E.super.epoch + 1 := by rw [htd.super]; rfl
                    have hq2 : T2.super.root = c.n := by rw [htd.super]; rfl
                    clear htd
                    have hw64 : IntKind.u64.wrap (E.super.epoch + 1) = E.super.epoch + 1 := by simp [IntKind.wrap, IntKind.bits, IntKind.signed]; omega
                    refine wp_region_held_drew (S := (fun w' : World => w'.cell? ⟨w4.heap.size, 6, none⟩ = some (.int .u64 E.super.epoch) ∧ w'.cell? ⟨wr.heap.size, 1, none⟩ = some (.int .i64 c.n))) (by kernel_rfl) HKD.out (fun hHeld => ?_)
                    refine wpAnyH_do (i := 0) (d := some 93) (.bool true) (by kernel_rfl) (by kernel_rfl) (by kernel_rfl) (by kernel_rfl) (by kernel_rfl) (fun _ _ _ h => h) ?_ (by assumption) ?_
                    · intro w o hSw ho
                      simp only [List.getElem?_toArray, List.getElem?_cons_zero, Option.some.injEq] at ho
                      subst ho
                      (try dsimp only at hSw)
                      go_simp
                    try simp only [Act.put, List.setIfInBounds_toArray, List.set_cons_zero, List.set_cons_succ]
                    refine wpAnyH_do (i := 1) (d := some 94) (.bool false) (by kernel_rfl) (by kernel_rfl) (by kernel_rfl) (by kernel_rfl) (by kernel_rfl) (fun _ _ _ h => h) ?_ (by assumption) ?_
                    · intro w o hSw ho
                      simp only [List.getElem?_toArray, List.getElem?_cons_succ, List.getElem?_cons_zero, Option.some.injEq] at ho
                      subst ho
                      (try dsimp only at hSw)
                      go_simp
                    try simp only [Act.put, List.setIfInBounds_toArray, List.set_cons_zero, List.set_cons_succ]
                    refine wpAnyH_do (i := 2) (d := some 95) (.bool false) (by kernel_rfl) (by kernel_rfl) (by kernel_rfl) (by kernel_rfl) (by kernel_rfl) (fun _ _ _ h => h) ?_ (by assumption) ?_
                    · intro w o hSw ho
                      simp only [List.getElem?_toArray, List.getElem?_cons_succ, List.getElem?_cons_zero, Option.some.injEq] at ho
                      subst ho
                      (try dsimp only at hSw)
                      go_simp
                    try simp only [Act.put, List.setIfInBounds_toArray, List.set_cons_zero, List.set_cons_succ]
                    refine wpAnyH_do (i := 3) (d := some 96) (.int .i64 0) (by kernel_rfl) (by kernel_rfl) (by kernel_rfl) (by kernel_rfl) (by kernel_rfl) (fun _ _ _ h => h) ?_ (by assumption) ?_
                    · intro w o hSw ho
                      simp only [List.getElem?_toArray, List.getElem?_cons_succ, List.getElem?_cons_zero, Option.some.injEq] at ho
                      subst ho
                      (try dsimp only at hSw)
                      go_simp
                    try simp only [Act.put, List.setIfInBounds_toArray, List.set_cons_zero, List.set_cons_succ]
                    refine wpAnyH_do (i := 4) (d := some 97) (.bool true) (by kernel_rfl) (by kernel_rfl) (by kernel_rfl) (by kernel_rfl) (by kernel_rfl) (fun _ _ _ h => h) ?_ (by assumption) ?_
                    · intro w o hSw ho
                      simp only [List.getElem?_toArray, List.getElem?_cons_succ, List.getElem?_cons_zero, Option.some.injEq] at ho
                      subst ho
                      (try dsimp only at hSw)
                      go_simp
                    try simp only [Act.put, List.setIfInBounds_toArray, List.set_cons_zero, List.set_cons_succ]
                    refine wpAnyH_do (i := 5) (d := some 98) (.bool true) (by kernel_rfl) (by kernel_rfl) (by kernel_rfl) (by kernel_rfl) (by kernel_rfl) (fun _ _ _ h => h) ?_ (by assumption) ?_
                    · intro w o hSw ho
                      simp only [List.getElem?_toArray, List.getElem?_cons_succ, List.getElem?_cons_zero, Option.some.injEq] at ho
                      subst ho
                      (try dsimp only at hSw)
                      go_simp
                    try simp only [Act.put, List.setIfInBounds_toArray, List.set_cons_zero, List.set_cons_succ]
                    refine wpAnyH_do (i := 6) (d := some 99) (.pointer (some ⟨sb, 0, none⟩)) (by kernel_rfl) (by kernel_rfl) (by kernel_rfl) (by kernel_rfl) (by kernel_rfl) (fun _ _ _ h => h) ?_ (by assumption) ?_
                    · intro w o hSw ho
                      simp only [List.getElem?_toArray, List.getElem?_cons_succ, List.getElem?_cons_zero, Option.some.injEq] at ho
                      subst ho
                      (try dsimp only at hSw)
                      go_simp
                    try simp only [Act.put, List.setIfInBounds_toArray, List.set_cons_zero, List.set_cons_succ]
                    refine wpAnyH_do (i := 9) (d := some 102) (.pointer (some ⟨w4.heap.size, 6, none⟩)) (by kernel_rfl) (by kernel_rfl) (by kernel_rfl) (by kernel_rfl) (by kernel_rfl) (fun _ _ _ h => h) ?_ (by assumption) ?_
                    · intro w o hSw ho
                      simp only [List.getElem?_toArray, List.getElem?_cons_succ, List.getElem?_cons_zero, Option.some.injEq] at ho
                      subst ho
                      (try dsimp only at hSw)
                      go_simp
                    try simp only [Act.put, List.setIfInBounds_toArray, List.set_cons_zero, List.set_cons_succ]
                    refine wpAnyH_do (i := 10) (d := some 103) (.int .u64 E.super.epoch) (by kernel_rfl) (by kernel_rfl) (by kernel_rfl) (by kernel_rfl) (by kernel_rfl) (fun _ _ _ h => h) ?_ (by assumption) ?_
                    · intro w o hSw ho
                      simp only [List.getElem?_toArray, List.getElem?_cons_succ, List.getElem?_cons_zero, Option.some.injEq] at ho
                      subst ho
                      (try dsimp only at hSw)
                      go_simp
                    try simp only [Act.put, List.setIfInBounds_toArray, List.set_cons_zero, List.set_cons_succ]
                    refine wpAnyH_do (i := 11) (d := some 104) (.int .u64 (E.super.epoch + 1)) (by kernel_rfl) (by kernel_rfl) (by kernel_rfl) (by kernel_rfl) (by kernel_rfl) (fun _ _ _ h => h) ?_ (by assumption) ?_
                    · intro w o hSw ho
                      simp only [List.getElem?_toArray, List.getElem?_cons_succ, List.getElem?_cons_zero, Option.some.injEq] at ho
                      subst ho
                      (try dsimp only at hSw)
                      go_simp
                    try simp only [Act.put, List.setIfInBounds_toArray, List.set_cons_zero, List.set_cons_succ]
                    refine wpAnyH_call (i := 7) (by kernel_rfl) (fun K hK o ho => ?_)
                    simp only [List.getElem?_toArray, List.getElem?_cons_succ, List.getElem?_cons_zero, Option.some.injEq] at ho
                    subst ho
                    go_simp
                    go_at_call 19
                    refine (super_s wa.drew HSD.out).mono ?_
                    intro e wb hcall
                    obtain ⟨vsup, rfl, ⟨xp, xk, xd, xg, rfl, _⟩, hfcall⟩ := hcall
                    unfold pageCells
                    rw [hq, hq2]
                    have hfb' := (Fr.refl [] wa).drew.trans hfcall
                    have HFB := Lib.hid hfb'
                    have HSB2 := Lib.hid (HST.out wb hfb')
                    have HKB := Lib.hid (HCL.out wb hfb')
                    clear hfcall hfb'
                    go_wp2_with fail
                    refine hK.out _ _ HKB.out (fun hHeld => ?_)
                    clear hK
                    try simp only [Act.put, List.setIfInBounds_toArray, List.set_cons_zero, List.set_cons_succ]
                    refine wpAnyH_do (i := 8) (d := some 101) (.int .u64 (E.super.epoch + 1)) (by kernel_rfl) (by kernel_rfl) (by kernel_rfl) (by kernel_rfl) (by kernel_rfl) (fun _ _ _ h => h) ?_ (by assumption) ?_
                    · intro w o hSw ho
                      simp only [List.getElem?_toArray, List.getElem?_cons_succ, List.getElem?_cons_zero, Option.some.injEq] at ho
                      subst ho
                      (try dsimp only at hSw)
                      go_simp
                    try simp only [Act.put, List.setIfInBounds_toArray, List.set_cons_zero, List.set_cons_succ]
                    refine wpAnyH_do (i := 12) (d := some 105) (.bool false) (by kernel_rfl) (by kernel_rfl) (by kernel_rfl) (by kernel_rfl) (by kernel_rfl) (fun _ _ _ h => h) ?_ (by assumption) ?_
                    · intro w o hSw ho
                      simp only [List.getElem?_toArray, List.getElem?_cons_succ, List.getElem?_cons_zero, Option.some.injEq] at ho
                      subst ho
                      (try dsimp only at hSw)
                      go_simp
                    try simp only [Act.put, List.setIfInBounds_toArray, List.set_cons_zero, List.set_cons_succ]
                    refine wpAnyH_do (i := 13) (d := some 106) (.bool false) (by kernel_rfl) (by kernel_rfl) (by kernel_rfl) (by kernel_rfl) (by kernel_rfl) (fun _ _ _ h => h) ?_ (by assumption) ?_
                    · intro w o hSw ho
                      simp only [List.getElem?_toArray, List.getElem?_cons_succ, List.getElem?_cons_zero, Option.some.injEq] at ho
                      subst ho
                      (try dsimp only at hSw)
                      go_simp
                    try simp only [Act.put, List.setIfInBounds_toArray, List.set_cons_zero, List.set_cons_succ]
                    refine wpAnyH_do (i := 14) (d := some 107) (.pointer (some ⟨sb, 0, none⟩)) (by kernel_rfl) (by kernel_rfl) (by kernel_rfl) (by kernel_rfl) (by kernel_rfl) (fun _ _ _ h => h) ?_ (by assumption) ?_
                    · intro w o hSw ho
                      simp only [List.getElem?_toArray, List.getElem?_cons_succ, List.getElem?_cons_zero, Option.some.injEq] at ho
                      subst ho
                      (try dsimp only at hSw)
                      go_simp
                    try simp only [Act.put, List.setIfInBounds_toArray, List.set_cons_zero, List.set_cons_succ]
                    refine wpAnyH_do (i := 17) (d := some 110) (.pointer (some ⟨wr.heap.size, 1, none⟩)) (by kernel_rfl) (by kernel_rfl) (by kernel_rfl) (by kernel_rfl) (by kernel_rfl) (fun _ _ _ h => h) ?_ (by assumption) ?_
                    · intro w o hSw ho
                      simp only [List.getElem?_toArray, List.getElem?_cons_succ, List.getElem?_cons_zero, Option.some.injEq] at ho
                      subst ho
                      (try dsimp only at hSw)
                      go_simp
                    try simp only [Act.put, List.setIfInBounds_toArray, List.set_cons_zero, List.set_cons_succ]
                    refine wpAnyH_do (i := 18) (d := some 111) (.int .i64 c.n) (by kernel_rfl) (by kernel_rfl) (by kernel_rfl) (by kernel_rfl) (by kernel_rfl) (fun _ _ _ h => h) ?_ (by assumption) ?_
                    · intro w o hSw ho
                      simp only [List.getElem?_toArray, List.getElem?_cons_succ, List.getElem?_cons_zero, Option.some.injEq] at ho
                      subst ho
                      (try dsimp only at hSw)
                      go_simp
                    try simp only [Act.put, List.setIfInBounds_toArray, List.set_cons_zero, List.set_cons_succ]
                    refine wpAnyH_call (i := 15) (by kernel_rfl) (fun K hK o ho => ?_)
                    simp only [List.getElem?_toArray, List.getElem?_cons_succ, List.getElem?_cons_zero, Option.some.injEq] at ho
                    subst ho
                    go_simp
                    go_at_call 19
                    refine (super_s wb HSB2.out).mono ?_
                    intro e wc hcall
                    obtain ⟨vsup, rfl, ⟨xp, xk, xd, xg, rfl, _⟩, hfcall⟩ := hcall
                    unfold pageCells
                    rw [hq, hq2]
                    have hfc' := HFB.out.trans hfcall
                    have HFC := Lib.hid hfc'
                    have HKC := Lib.hid (HCL.out wc hfc')
                    clear hfcall hfc'
                    go_wp2_with fail
                    refine hK.out _ _ HKC.out (fun hHeld => ?_)
                    clear hK
                    try simp only [Act.put, List.setIfInBounds_toArray, List.set_cons_zero, List.set_cons_succ]
                    refine wpAnyH_do (i := 16) (d := some 109) (.int .i64 c.n) (by kernel_rfl) (by kernel_rfl) (by kernel_rfl) (by kernel_rfl) (by kernel_rfl) (fun _ _ _ h => h) ?_ (by assumption) ?_
                    · intro w o hSw ho
                      simp only [List.getElem?_toArray, List.getElem?_cons_succ, List.getElem?_cons_zero, Option.some.injEq] at ho
                      subst ho
                      (try dsimp only at hSw)
                      go_simp
                    try simp only [Act.put, List.setIfInBounds_toArray, List.set_cons_zero, List.set_cons_succ]
                    refine wpAnyH_do (i := 19) (d := some 112) (.bool false) (by kernel_rfl) (by kernel_rfl) (by kernel_rfl) (by kernel_rfl) (by kernel_rfl) (fun _ _ _ h => h) ?_ (by assumption) ?_
                    · intro w o hSw ho
                      simp only [List.getElem?_toArray, List.getElem?_cons_succ, List.getElem?_cons_zero, Option.some.injEq] at ho
                      subst ho
                      (try dsimp only at hSw)
                      go_simp
                    try simp only [Act.put, List.setIfInBounds_toArray, List.set_cons_zero, List.set_cons_succ]
                    refine wpAnyH_do (i := 20) (d := some 113) (.bool false) (by kernel_rfl) (by kernel_rfl) (by kernel_rfl) (by kernel_rfl) (by kernel_rfl) (fun _ _ _ h => h) ?_ (by assumption) ?_
                    · intro w o hSw ho
                      simp only [List.getElem?_toArray, List.getElem?_cons_succ, List.getElem?_cons_zero, Option.some.injEq] at ho
                      subst ho
                      (try dsimp only at hSw)
                      go_simp
                    try simp only [Act.put, List.setIfInBounds_toArray, List.set_cons_zero, List.set_cons_succ]
                    refine wpAnyH_do (i := 21) (d := some 114) (.bool false) (by kernel_rfl) (by kernel_rfl) (by kernel_rfl) (by kernel_rfl) (by kernel_rfl) (fun _ _ _ h => h) ?_ (by assumption) ?_
                    · intro w o hSw ho
                      simp only [List.getElem?_toArray, List.getElem?_cons_succ, List.getElem?_cons_zero, Option.some.injEq] at ho
                      subst ho
                      (try dsimp only at hSw)
                      go_simp
                    try simp only [Act.put, List.setIfInBounds_toArray, List.set_cons_zero, List.set_cons_succ]
                    refine wpAnyH_do (i := 22) (d := some 115) (.bool false) (by kernel_rfl) (by kernel_rfl) (by kernel_rfl) (by kernel_rfl) (by kernel_rfl) (fun _ _ _ h => h) ?_ (by assumption) ?_
                    · intro w o hSw ho
                      simp only [List.getElem?_toArray, List.getElem?_cons_succ, List.getElem?_cons_zero, Option.some.injEq] at ho
                      subst ho
                      (try dsimp only at hSw)
                      go_simp
                    try simp only [Act.put, List.setIfInBounds_toArray, List.set_cons_zero, List.set_cons_succ]
                    refine wpAnyH_do (i := 23) (d := some 116) (.bool false) (by kernel_rfl) (by kernel_rfl) (by kernel_rfl) (by kernel_rfl) (by kernel_rfl) (fun _ _ _ h => h) ?_ (by assumption) ?_
                    · intro w o hSw ho
                      simp only [List.getElem?_toArray, List.getElem?_cons_succ, List.getElem?_cons_zero, Option.some.injEq] at ho
                      subst ho
                      (try dsimp only at hSw)
                      go_simp
                    try simp only [Act.put, List.setIfInBounds_toArray, List.set_cons_zero, List.set_cons_succ]
                    refine wpAnyH_do (i := 24) (d := some 117) (.int .i64 0) (by kernel_rfl) (by kernel_rfl) (by kernel_rfl) (by kernel_rfl) (by kernel_rfl) (fun _ _ _ h => h) ?_ (by assumption) ?_
                    · intro w o hSw ho
                      simp only [List.getElem?_toArray, List.getElem?_cons_succ, List.getElem?_cons_zero, Option.some.injEq] at ho
                      subst ho
                      (try dsimp only at hSw)
                      go_simp
                    try simp only [Act.put, List.setIfInBounds_toArray, List.set_cons_zero, List.set_cons_succ]
                    refine wpAnyH_do (i := 25) (d := some 118) (.bool false) (by kernel_rfl) (by kernel_rfl) (by kernel_rfl) (by kernel_rfl) (by kernel_rfl) (fun _ _ _ h => h) ?_ (by assumption) ?_
                    · intro w o hSw ho
                      simp only [List.getElem?_toArray, List.getElem?_cons_succ, List.getElem?_cons_zero, Option.some.injEq] at ho
                      subst ho
                      (try dsimp only at hSw)
                      go_simp
                    try simp only [Act.put, List.setIfInBounds_toArray, List.set_cons_zero, List.set_cons_succ]
                    refine wpAnyH_do (i := 26) (d := some 119) (.bool false) (by kernel_rfl) (by kernel_rfl) (by kernel_rfl) (by kernel_rfl) (by kernel_rfl) (fun _ _ _ h => h) ?_ (by assumption) ?_
                    · intro w o hSw ho
                      simp only [List.getElem?_toArray, List.getElem?_cons_succ, List.getElem?_cons_zero, Option.some.injEq] at ho
                      subst ho
                      (try dsimp only at hSw)
                      go_simp
                    try simp only [Act.put, List.setIfInBounds_toArray, List.set_cons_zero, List.set_cons_succ]
                    refine wpAnyH_skip (i := 27) (d := some 120) (by kernel_rfl) (by kernel_rfl) (by kernel_rfl) (by kernel_rfl) (by kernel_rfl) (fun _ _ _ h => h) (by assumption) ?_
                    try simp only [Act.put, List.setIfInBounds_toArray, List.set_cons_zero, List.set_cons_succ]
                    refine wpAnyH_skip (i := 28) (d := some 121) (by kernel_rfl) (by kernel_rfl) (by kernel_rfl) (by kernel_rfl) (by kernel_rfl) (fun _ _ _ h => h) (by assumption) ?_
                    try simp only [Act.put, List.setIfInBounds_toArray, List.set_cons_zero, List.set_cons_succ]
                    refine wpAnyH_skip (i := 29) (d := some 122) (by kernel_rfl) (by kernel_rfl) (by kernel_rfl) (by kernel_rfl) (by kernel_rfl) (fun _ _ _ h => h) (by assumption) ?_
                    try simp only [Act.put, List.setIfInBounds_toArray, List.set_cons_zero, List.set_cons_succ]
                    refine wpAnyH_skip (i := 30) (d := some 123) (by kernel_rfl) (by kernel_rfl) (by kernel_rfl) (by kernel_rfl) (by kernel_rfl) (fun _ _ _ h => h) (by assumption) ?_
                    try simp only [Act.put, List.setIfInBounds_toArray, List.set_cons_zero, List.set_cons_succ]
                    refine wpAnyH_skip (i := 31) (d := some 124) (by kernel_rfl) (by kernel_rfl) (by kernel_rfl) (by kernel_rfl) (by kernel_rfl) (fun _ _ _ h => h) (by assumption) ?_
                    try simp only [Act.put, List.setIfInBounds_toArray, List.set_cons_zero, List.set_cons_succ]
                    refine wpAnyH_skip (i := 32) (d := some 125) (by kernel_rfl) (by kernel_rfl) (by kernel_rfl) (by kernel_rfl) (by kernel_rfl) (fun _ _ _ h => h) (by assumption) ?_
                    try simp only [Act.put, List.setIfInBounds_toArray, List.set_cons_zero, List.set_cons_succ]
                    refine wpAnyH_do (i := 33) (d := some 126) (.bool false) (by kernel_rfl) (by kernel_rfl) (by kernel_rfl) (by kernel_rfl) (by kernel_rfl) (fun _ _ _ h => h) ?_ (by assumption) ?_
                    · intro w o hSw ho
                      simp only [List.getElem?_toArray, List.getElem?_cons_succ, List.getElem?_cons_zero, Option.some.injEq] at ho
                      subst ho
                      (try dsimp only at hSw)
                      go_simp
                    try simp only [Act.put, List.setIfInBounds_toArray, List.set_cons_zero, List.set_cons_succ]
                    refine wpAnyH_do (i := 34) (d := some 127) (.bool false) (by kernel_rfl) (by kernel_rfl) (by kernel_rfl) (by kernel_rfl) (by kernel_rfl) (fun _ _ _ h => h) ?_ (by assumption) ?_
                    · intro w o hSw ho
                      simp only [List.getElem?_toArray, List.getElem?_cons_succ, List.getElem?_cons_zero, Option.some.injEq] at ho
                      subst ho
                      (try dsimp only at hSw)
                      go_simp
                    try simp only [Act.put, List.setIfInBounds_toArray, List.set_cons_zero, List.set_cons_succ]
                    refine wpAnyH_done (by kernel_rfl) ?_ _
                    have HZZ := Lib.hid (HN6.out wc HFC.out)
                    go_wp2_with fail
                    go_roundw
                    case rel => exact ⟨k + 1, fm6, _, by omega, by omega, by go_num, HZZ.out⟩
                    case measure => simp [intOf]; omega
                · have HN6 : Hid (EpAt W W5 sb b ml mc fm1 E (1 + (k + 1 : Nat))) := Lib.hid ⟨HM5.out, HAT.out.live, by have := HAT.out.ep; omega⟩
                  go_wp2
                  go_roundw
                  case rel => exact ⟨k + 1, fm1, E, by omega, by omega, by go_num, HN6.out⟩
                  case measure => simp [intOf]; omega
          · have hff : fewB c.p = false := by simpa using hfw
            rw [hff]
            have HN6 : Hid (EpAt W w2 sb b ml mc fm1 E (1 + (k + 1 : Nat))) := Lib.hid ⟨HM2.out, HAT.out.live, by have := HAT.out.ep; omega⟩
            go_wp2
            go_roundw
            case rel => exact ⟨k + 1, fm1, E, by omega, by omega, by go_num, HN6.out⟩
            case measure => simp [intOf]; omega
      · have hk4 : ¬ (k : Int) < 40 := by omega
        obtain rfl : k = 40 := by omega
        go_wp2_with fail
        go_ret
        exact ⟨rfl, HAT.out.mine.fr⟩
    · have hkI : ¬ (k : Int) < (cs.length : Int) := by omega
      go_wp2_with fail
      go_ret
      exact ⟨rfl, HAT.out.mine.fr⟩
end Go.Proofs.Ytgpeoonpoogniaa

