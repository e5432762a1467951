/- Restart of a device. -/
import Derived.Test.YtgockpichhgijaaDevI
import Derived.Deep.RegionHeld3
namespace Go.Proofs.Ytgockpichhgijaa
open Go.RowKit Go.MapKept

def keepStep (D : Dv) (n : Int) : Dv := match D.cache n with
  | some l => { D with last := upd D.last n (some l), cache := upd D.cache n none }
  | none => D
def keepAll (D : Dv) (keep : List Int) : Dv := keep.foldl keepStep D
def clampN (cut : Int) : Nat := (min (max cut 0) 1024).toNat
def tornD (D : Dv) (torn cut : Int) : Dv := match D.cache torn with
  | some l => { D with last := upd D.last torn (some (l.take (clampN cut) ++ ((D.last torn).getD zeros).drop (clampN cut))) }
  | none => D
def wakeD (D : Dv) : Dv := { D with cache := fun _ => none, off := false, fuse := -1 }
def restartD (D : Dv) (keep : List Int) (torn cut : Int) : Dv := wakeD (tornD (keepAll D keep) torn cut)

theorem restart_nil (v : Value) (t c : Int) (w : World) : Calls Try.prog 15 #[.pointer none, v, .int .i64 t, .int .i64 c] w fun e w' => e = .returned (.tuple #[]) ∧ w = w' := by
  go_enter Try.func15, Try.ntmps15
  go_wp2
  refine bodyPost_ret (results_none rfl _ _ _) rfl ?_
  exact ⟨rfl, rfl⟩

theorem keepAll_snoc (D : Dv) (l : List Int) (n : Int) : keepAll D (l ++ [n]) = keepStep (keepAll D l) n := by simp [keepAll]

section
variable {w : World} {b ml mc : Nat} {D : Dv}
/-- One kept sector: its store, and its delete. -/
theorem DevAt.keep1 (h : DevAt w b ml mc D) (n : Int) {l : List UInt8} (hc : D.cache n = some l) (ty : TypeId) :
    ∃ v w2 w3, (Instr.lookup 58 (.map (some mc)) (.int .i64 n) true).run Try.prog w = .ok (.tuple #[v, .bool true]) w ∧
      (Instr.mapUpdate 58 (.map (some ml)) (.int .i64 n) v).run Try.prog w = .ok () w2 ∧ w2.cell? ⟨b, 2, none⟩ = some (.map (some mc)) ∧
      (Builtin.delete_ #[58, 3] ty #[.map (some mc), .int .i64 n]).run Try.prog w2 = .ok (.tuple #[]) w3 ∧ DevAt w3 b ml mc (keepStep D n) ∧ Fr [ml, mc] w w3 := by
  obtain ⟨v, hl, hb⟩ := h.cacheM.look_some hc true
  obtain ⟨w2, hu, hbm, hf2, _⟩ := h.lastM.put (by simp) n hb
  have hk := h.fine.keysC n l hc
  have h2 := h.lastIs hf2 hbm (upd_keys h.fine.keysL hk.1 hk.2.1 hk.2.2)
  obtain ⟨w3, hd, hbm3, hf3, _⟩ := h2.cacheM.del (by simp) n ty
  have h3 := h2.cacheIs hf3 hbm3 (fun k l' hkl => by
    by_cases e : k = n
    · subst e; rw [upd_same] at hkl; cases hkl
    · rw [upd_ne _ _ e] at hkl; exact h.fine.keysC k l' hkl)
  refine ⟨v, w2, w3, hl, hu, h2.cells.2.2.1, hd, ?_, (hf2.mono (by simp)).trans (hf3.mono (by simp))⟩
  unfold keepStep
  rw [hc]
  exact h3

/-- The power comes back: the cache is cleared, the flag and the fuse are written. -/
theorem DevAt.wake (h : DevAt w b ml mc D) (ty : TypeId) :
    ∃ w2, (Builtin.clear_ #[58] ty #[.map (some mc)]).run Try.prog w = .ok (.tuple #[]) w2 ∧ DevAt w2 b ml mc { D with cache := fun _ => none } ∧ Fr [mc] w w2 ∧
      (DevAt ((w2.setCell ⟨b, 3, none⟩ (.bool false)).setCell ⟨b, 4, none⟩ (.int .i64 (-1))) b ml mc (wakeD D) ∧ Fr [b] w2 ((w2.setCell ⟨b, 3, none⟩ (.bool false)).setCell ⟨b, 4, none⟩ (.int .i64 (-1)))) := by
  obtain ⟨w2, hcl, hbm, hf, _⟩ := h.cacheM.clr ty
  have h2 := h.cacheIs hf hbm (fun _ _ h => by cases h)
  have hfr := (Fr.setCell w2 ⟨b, 3, none⟩ (.bool false)).trans (Fr.setCell _ ⟨b, 4, none⟩ (.int .i64 (-1)))
  refine ⟨w2, hcl, h2, hf, ?_, hfr⟩
  refine h2.written false (-1) hfr (by omega) (by omega) ?_
  rw [blk_set (blk_set h2.blk 3 _) 4 _]
  rfl

/-- The torn sector is laid, and the power comes back. -/
theorem DevAt.torn1 (h : DevAt w b ml mc D) {torn : Int} (h0 : 0 ≤ torn) (h1 : torn < D.n) {w4 : World} (hf : Fr [] w w4) {v : Value} {l : List UInt8} (hv : Bytes [b, ml, mc] w4 v l) (hl : l.length = 1024) (ty : TypeId) :
    ∃ w5 w6, w4.cell? ⟨b, 1, none⟩ = some (.map (some ml)) ∧ (Instr.mapUpdate 58 (.map (some ml)) (.int .i64 torn) v).run Try.prog w4 = .ok () w5 ∧ w5.cell? ⟨b, 1, none⟩ = some (.map (some ml)) ∧ w5.cell? ⟨b, 2, none⟩ = some (.map (some mc)) ∧
      (Builtin.clear_ #[58] ty #[.map (some mc)]).run Try.prog w5 = .ok (.tuple #[]) w6 ∧ w6.cell? ⟨b, 3, none⟩ = some (.bool D.off) ∧ w6.cell? ⟨b, 4, none⟩ = some (.int .i64 D.fuse) ∧ w6.frozen? ⟨b, 3, none⟩ = false ∧ w6.frozen? ⟨b, 4, none⟩ = false ∧
      Hid (DevAt ((w6.setCell ⟨b, 3, none⟩ (.bool false)).setCell ⟨b, 4, none⟩ (.int .i64 (-1))) b ml mc (wakeD { D with last := upd D.last torn (some l) }) ∧ Fr [b, ml, mc] w ((w6.setCell ⟨b, 3, none⟩ (.bool false)).setCell ⟨b, 4, none⟩ (.int .i64 (-1)))) := by
  have h4 := h.kept hf
  obtain ⟨w5, hu, hbm, hf5, _⟩ := h4.lastM.put (by simp) torn hv
  have h5 := h4.lastIs hf5 hbm (upd_keys h4.fine.keysL h0 h1 hl)
  obtain ⟨w6, hcl, h6, hf6, h7, hf7⟩ := h5.wake ty
  refine ⟨w5, w6, h4.cells.2.1, hu, h5.cells.2.1, h5.cells.2.2.1, hcl, h6.cells.2.2.2.1, h6.cells.2.2.2.2, h6.free 3, h6.free 4, h7, ?_⟩
  exact (((hf.nil (S := [b, ml, mc])).trans (hf5.mono (by simp))).trans (hf6.mono (by simp))).trans (hf7.mono (by simp))

/-- What a map of bytes holds at a place, none being nil; in this world, and in each that has only more. -/
theorem BM.look_any {S : List Nat} {r : Nat} {g : Int → Option (List UInt8)} (h : BM S w r g) (k : Int) (hl : ∀ l, g k = some l → l.length = 1024) :
    ∃ v l, (∀ w2, Fr [] w w2 → (Instr.lookup 58 (.map (some r)) (.int .i64 k) false).run Try.prog w2 = .ok v w2 ∧ Bytes S w2 v l) ∧ l.length ≤ 1024 ∧ pad l = (g k).getD zeros := by
  obtain ⟨f, hm, hg⟩ := h
  cases hk : g k with
  | some l =>
    obtain ⟨v, hv, hb⟩ := (hg k).2 l hk
    have hl' := hl l hk
    exact ⟨v, l, fun w2 hf => ⟨(hm.kept hf (by simp)).lookup_some keInt Try.underlying58 Try.underlying3 hv false, hb.kept hf.nil⟩, by omega, by rw [pad_full hl']; rfl⟩
  | none =>
    exact ⟨_, [], fun w2 hf => ⟨(hm.kept hf (by simp)).lookup_none keInt Try.underlying58 Try.underlying3 ((hg k).1 hk) (zero_bytes w2) false, Bytes.nil _ _⟩, by simp, pad_nil⟩
end

theorem slc_of {S : List Nat} {w : World} {v : Value} {l : List UInt8} {n : Nat} (hn : l.length = n) (h : Bytes S w v l) : Slc S w v n (l.map byteV) := by subst hn; exact h
theorem torn_bytes {S : List Nat} {w : World} {base : Nat} {e : TypeId} {v : Value} {l p : List UInt8} {c : Nat} (hl : l.length = 1024) (hp : p.length = 1024) (hc : c ≤ 1024) (h : w.ownsRow base e 1 v 1024 ((l.take c).map byteV ++ (p.drop c).map byteV)) (hs : ∀ x, x ∈ S → x < base) :
    Bytes S w v (l.take c ++ p.drop c) := by
  have := Slc.ofOwns h hs
  unfold Bytes
  rw [List.map_append, List.length_append, List.length_take, hl, Nat.min_eq_left hc, List.length_drop, hp, show c + (1024 - c) = 1024 from by omega]
  exact this
theorem torn_length {l ll : List UInt8} {c : Nat} (hl : l.length = 1024) (hll : ll.length ≤ 1024) (hc : c ≤ 1024) : (l.take c ++ (pad ll).drop c).length = 1024 := by
  rw [List.length_append, List.length_take, List.length_drop, pad_length hll, hl]; omega
theorem bytes_empty {S : List Nat} {w : World} {l : List UInt8} (h : l = []) (B off : Nat) : Bytes S w (.slice (some ⟨B, off, none⟩) 0 0) l := by
  subst h
  exact .inr ⟨B, off, 0, rfl, Nat.le_refl _, .inl rfl, fun i v hv => by simp at hv⟩

set_option maxRecDepth 100000 in
set_option maxHeartbeats 4000000 in
theorem restart_k {b ml mc : Nat} {D : Dv} {kv : Value} {keep : List Int} (torn cut : Int) (w : World) (h : DevAt w b ml mc D) (hk : Ints [b, ml, mc] w kv keep) (hlen : keep.length ≤ 9223372036854775807) :
    Calls Try.prog 15 #[devP b, kv, .int .i64 torn, .int .i64 cut] w fun e w' => e = .returned (.tuple #[]) ∧ DevAt w' b ml mc (restartD D keep torn cut) ∧ Fr [b, ml, mc] w w' := by
  obtain ⟨ka, kc, rfl, _⟩ := Slc.form hk
  have HH := Lib.hid h
  have HK := Lib.hid hk
  clear h hk
  go_enter Try.func15, Try.ntmps15
  go_wp2_with fail
  go_loopw [18] (fun i wr => ∃ k : Nat, k ≤ keep.length ∧ i = .int .i64 k ∧ DevAt wr b ml mc (keepAll D (keep.take k)) ∧ Fr [ml, mc] w wr) (fun i _ => keep.length - (intOf i).toNat)
  case atStart => exact ⟨0, Nat.zero_le _, rfl, HH.out, Fr.refl _ _⟩
  case round =>
    obtain ⟨k, hkl, rfl, hd, hfr⟩ := hrel
    by_cases hlt : k < keep.length
    · have hI : Ints [b, ml, mc] wr (.slice ka keep.length kc) keep := HK.out.kept (hfr.mono (by simp))
      obtain ⟨B, off, rfl⟩ : ∃ B off, ka = some ⟨B, off, none⟩ := by
        rcases HK.out with ⟨_, _, _, h0, _⟩ | ⟨B, off, cap, h, _⟩
        · omega
        · cases h; exact ⟨B, off, rfl⟩
      have hcell := hI.at hlt
      have htk : keep.take (k + 1) = keep.take k ++ [keep[k]] := List.take_succ_eq_append_getElem hlt
      have hnext := keepAll_snoc D (keep.take k) keep[k]
      rw [← htk] at hnext
      generalize keep[k] = n at *
      obtain ⟨c0, c1, c2, c3, c4⟩ := hd.cells
      cases hcn : (keepAll D (keep.take k)).cache n with
      | none =>
        have hrun := hd.cacheM.look_none hcn true
        simp only [if_true] at hrun
        have hfin : DevAt wr b ml mc (keepAll D (keep.take (k + 1))) ∧ Fr [ml, mc] w wr := by
          rw [hnext]; unfold keepStep; rw [hcn]; exact ⟨hd, hfr⟩
        have HF := Lib.hid hfin
        clear hfin hnext htk hcn hd hfr hI c0 c1 c3 c4
        go_wp2
        go_roundw
        case rel => exact ⟨k + 1, by omega, by go_num, HF.out⟩
        case measure => simp [intOf]; omega
      | some l =>
        obtain ⟨v, w2, w3, hl, hu, hc2, hdl, hd3, hf3⟩ := hd.keep1 n hcn 0
        have hfin : DevAt w3 b ml mc (keepAll D (keep.take (k + 1))) ∧ Fr [ml, mc] w w3 := by
          rw [hnext]; exact ⟨hd3, hfr.trans hf3⟩
        have HF := Lib.hid hfin
        clear hfin hnext htk hcn hd hfr hI hd3 hf3 c0 c3 c4
        go_wp2
        go_roundw
        case rel => exact ⟨k + 1, by omega, by go_num, HF.out⟩
        case measure => simp [intOf]; omega
    · have hke : keep.take k = keep := List.take_of_length_le (by omega)
      rw [hke] at hd
      clear hke
      obtain ⟨E, hE⟩ : ∃ E, keepAll D keep = E := ⟨_, rfl⟩
      rw [hE] at hd
      obtain ⟨c0, c1, c2, c3, c4⟩ := hd.cells
      have f3 := hd.free 3
      have f4 := hd.free 4
      cases hct : E.cache torn with
      | none =>
        have hrun := hd.cacheM.look_none hct true
        simp only [if_true] at hrun
        obtain ⟨w2, hcl, hfin⟩ := hd.wake 0
        have htd : tornD E torn cut = E := by unfold tornD; rw [hct]
        have hres : restartD D keep torn cut = wakeD E := by unfold restartD; rw [hE, htd]
        have HRS := Lib.hid hres
        have HF := Lib.hid hfin
        have c22 := HF.out.1.cells.2.2.2.1
        have f23 := HF.out.1.free 3
        have c24 := HF.out.1.cells.2.2.2.2
        have f24 := HF.out.1.free 4
        have HFR := Lib.hid hfr
        clear hfin hct hd hfr htd hres hE
        go_wp2
        go_end0
        obtain ⟨_, hf2, hw⟩ := HF.out
        rw [HRS.out]
        exact ⟨rfl, hw.1, ((HFR.out.mono (by simp)).trans (hf2.mono (by simp))).trans (hw.2.mono (by simp))⟩
      | some l =>
        obtain ⟨v, hl, hb⟩ := hd.cacheM.look_some hct true
        simp only [if_true] at hl
        have hl1 := (hd.fine.keysC torn l hct).2.2
        have htk := hd.fine.keysC torn l hct
        obtain ⟨B, off, cp, rfl⟩ : ∃ B off cp, v = .slice (some ⟨B, off, none⟩) 1024 cp := by
          rcases hb with ⟨_, _, _, h0, _⟩ | ⟨B, off, cap, h, _⟩
          · omega
          · rw [hl1] at h; exact ⟨B, off, cap, h⟩
        have hcp : 1024 ≤ cp := by
          obtain ⟨a, c, h, h2⟩ := Slc.form hb
          simp only [Value.slice.injEq] at h
          omega
        obtain ⟨vl, ll, hlk, hll, hpl⟩ := hd.lastM.look_any torn (fun l h => (hd.fine.keysL torn l h).2.2)
        have hlw := (hlk _ (Fr.refl [] wr).drew).1
        have HLK := Lib.hid hlk
        have HD := Lib.hid hd
        have HB := Lib.hid hb
        have HFR := Lib.hid hfr
        have HCT := Lib.hid hct
        have HPL := Lib.hid hpl
        have HE := Lib.hid hE
        clear hlk hd hb hfr hct hpl f3 f4 hE c0 c3 c4
        rcases Int.lt_or_le cut 0 with hc0 | hc0
        · have hcl0 : clampN cut = 0 := by unfold clampN; omega
          have hcl0' := hcl0
          clear hcl0
          have hres : restartD D keep torn cut = wakeD { E with last := upd E.last torn (some (l.take (0) ++ (pad ll).drop (0))) } := by
            unfold restartD tornD
            rw [HE.out, HCT.out, HPL.out, hcl0']
          have HRS := Lib.hid hres
          clear hres hcl0'
          go_wp2_with fail
          go_region_held3 (fun w' => w'.cell? ⟨b, 1, none⟩ = some (.map (some ml))) (first | assumption | go_keep)
            (first
              | (go_at_call 32; refine (clone_n (S := [b, ml, mc]) (l := l.take (0)) (0) _ (by exact HB.out.take (by omega)) (by simp) (by rw [List.length_take]; omega) (by omega)).mono ?_; rintro e w2 ⟨g, cap, rfl, hown, hfr2, hg⟩;
                 have hlw2 := (HLK.out w2 hfr2.ofDrew).1; have hcw2 := (HD.out.kept hfr2.ofDrew).cells.2.1; have HOW := Lib.hid hown; have HF2 := Lib.hid hfr2; clear hown hfr2)
              | (go_at_call 30; refine (whole_k (S := [b, ml, mc]) (l := ll) _ (by exact (HLK.out _ HF2.out.ofDrew).2) hll).mono ?_; rintro e w3 ⟨rfl, hblk, hfr3, hsz3⟩; have hcw3 := (HD.out.kept (HF2.out.ofDrew.trans hfr3)).cells.2.1;
                 have hgl := (HOW.out.lt g rfl).2; have hdl := HD.out.lt; have hs2 := HF2.out.size; have hs3 := hfr3.size; rw [heap_drew] at hs2 hg;
                 have HX3 : Hid (Slc [g, b, ml, mc] w3 (.slice (some ⟨w2.heap.size, 0, none⟩) (1024) (1024)) (1024) (((pad ll).drop (0)).map byteV)) := Lib.hid (slc_of (by rw [List.length_drop, pad_length hll]) <| Blk.bytes (S := [g, b, ml, mc]) (n := 1024) hblk (by simp only [List.mem_cons, List.not_mem_nil, or_false, not_or]; omega) (pad_length hll));
                 have HO3 := Lib.hid (ownsKept HOW.out hfr3 (by simp)); have HF3 := Lib.hid hfr3; have HSZ := Lib.hid (And.intro hgl (And.intro hdl (And.intro hs2 (And.intro hs3 hg)))); clear hgl hdl hs2 hs3 hblk hfr3 hsz3 hg)
              | (have _t := hcw3; refine step_append_slc (S := [g, b, ml, mc]) (base := wr.heap.size) (v := .slice (some ⟨g, 0, none⟩) (0) cap) (xv := .slice (some ⟨w2.heap.size, 0, none⟩) (1024) (1024)) (n := 0) (xs := (l.take (0)).map byteV) (m := 1024) (N := 1024) (news := ((pad ll).drop (0)).map byteV) rfl (.tmp 65) (.tmp 74) 23 rfl Try.underlying23 Try.info5 rfl (by decide) rfl HO3.out rfl HX3.out ?_ ?_ ?_ ?_ ?_ ?_ ?_; rw [List.length_map, List.length_drop, pad_length hll]; exact bytes_one _; omega; unfold maxLen; omega; omega; have := HSZ.out; omega;
                 intro v' w4 hown4 hf4 hnn; obtain ⟨g', cap', rfl, hg1, hg2⟩ := ownsRow_ne hown4 (fun h => by have := (hnn h).1; cases this);
                 have hv4 : Bytes [b, ml, mc] w4 (.slice (some ⟨g', 0, none⟩) 1024 cap') (l.take (0) ++ (pad ll).drop (0)) := torn_bytes hl1 (pad_length hll) (by omega) hown4 (by have := HD.out.lt; simp only [List.mem_cons, List.not_mem_nil, or_false]; omega);
                 have hfr4 : Fr [] wr w4 := (HF2.out.ofDrew.trans HF3.out).andThen hf4 (by have := HSZ.out; simp [Value.ownBlock]; omega);
                 obtain ⟨w5, w6, hc4w, hmu, hc5, hc52, hcl, hc63, hc64, hf63, hf64, HFIN⟩ := HD.out.torn1 htk.1 htk.2.1 hfr4 hv4 (torn_length hl1 hll (by omega)) 0;
                 clear hown4 hf4 hnn hv4 hfr4 hg1 hg2))
          all_goals
            clear hlw
            go_wp2
            go_end0
            rw [HRS.out]
            exact ⟨rfl, HFIN.out.1, (HFR.out.mono (by simp)).trans HFIN.out.2⟩
        · rcases Int.lt_or_le cut 1024 with hc1 | hc1
          · obtain ⟨c, rfl⟩ := Int.eq_ofNat_of_zero_le hc0
            have hcN : c < 1024 := by omega
            have hcne : ¬ (1024 : Nat) = c := by omega
            have hc3 : (c : Int) ≤ (cp : Int) := by omega
            have hc4 : (c : Int) ≤ 1024 := by omega
            have hcl0' : clampN (c : Int) = c := by unfold clampN; omega
            have hres : restartD D keep torn (c : Int) = wakeD { E with last := upd E.last torn (some (l.take (c) ++ (pad ll).drop (c))) } := by
              unfold restartD tornD
              rw [HE.out, HCT.out, HPL.out, hcl0']
            have HRS := Lib.hid hres
            clear hres hcl0'
            go_wp2_with fail
            go_region_held3 (fun w' => w'.cell? ⟨b, 1, none⟩ = some (.map (some ml))) (first | assumption | go_keep)
              (first
                | (go_at_call 32; refine (clone_n (S := [b, ml, mc]) (l := l.take (c)) (c) _ (by exact HB.out.take (by omega)) (by simp) (by rw [List.length_take]; omega) (by omega)).mono ?_; rintro e w2 ⟨g, cap, rfl, hown, hfr2, hg⟩;
                   have hlw2 := (HLK.out w2 hfr2.ofDrew).1; have hcw2 := (HD.out.kept hfr2.ofDrew).cells.2.1; have HOW := Lib.hid hown; have HF2 := Lib.hid hfr2; clear hown hfr2)
                | (go_at_call 30; refine (whole_k (S := [b, ml, mc]) (l := ll) _ (by exact (HLK.out _ HF2.out.ofDrew).2) hll).mono ?_; rintro e w3 ⟨rfl, hblk, hfr3, hsz3⟩; have hcw3 := (HD.out.kept (HF2.out.ofDrew.trans hfr3)).cells.2.1;
                   have hgl := (HOW.out.lt g rfl).2; have hdl := HD.out.lt; have hs2 := HF2.out.size; have hs3 := hfr3.size; rw [heap_drew] at hs2 hg;
                   have HX3 : Hid (Slc [g, b, ml, mc] w3 (.slice (some ⟨w2.heap.size, 0 + c, none⟩) (1024 - c) (1024 - c)) (1024 - c) (((pad ll).drop (c)).map byteV)) := Lib.hid (slc_of (by rw [List.length_drop, pad_length hll]) <| Bytes.drop (Blk.bytes (S := [g, b, ml, mc]) (n := 1024) hblk (by simp only [List.mem_cons, List.not_mem_nil, or_false, not_or]; omega) (pad_length hll)) (k := c) (by rw [pad_length hll]; omega));
                   have HO3 := Lib.hid (ownsKept HOW.out hfr3 (by simp)); have HF3 := Lib.hid hfr3; have HSZ := Lib.hid (And.intro hgl (And.intro hdl (And.intro hs2 (And.intro hs3 hg)))); clear hgl hdl hs2 hs3 hblk hfr3 hsz3 hg)
                | (have _t := hcw3; refine step_append_slc (S := [g, b, ml, mc]) (base := wr.heap.size) (v := .slice (some ⟨g, 0, none⟩) (c) cap) (xv := .slice (some ⟨w2.heap.size, 0 + c, none⟩) (1024 - c) (1024 - c)) (n := c) (xs := (l.take (c)).map byteV) (m := 1024 - c) (N := 1024) (news := ((pad ll).drop (c)).map byteV) rfl (.tmp 65) (.tmp 74) 23 rfl Try.underlying23 Try.info5 rfl (by decide) rfl HO3.out ?_ HX3.out ?_ ?_ ?_ ?_ ?_ ?_ ?_; (simp [Act.eval]); rw [List.length_map, List.length_drop, pad_length hll, Nat.mul_one]; exact bytes_one _; omega; unfold maxLen; omega; omega; have := HSZ.out; omega;
                   intro v' w4 hown4 hf4 hnn; obtain ⟨g', cap', rfl, hg1, hg2⟩ := ownsRow_ne hown4 (fun h => by have := (hnn h).1; cases this);
                   have hv4 : Bytes [b, ml, mc] w4 (.slice (some ⟨g', 0, none⟩) 1024 cap') (l.take (c) ++ (pad ll).drop (c)) := torn_bytes hl1 (pad_length hll) (by omega) hown4 (by have := HD.out.lt; simp only [List.mem_cons, List.not_mem_nil, or_false]; omega);
                   have hfr4 : Fr [] wr w4 := (HF2.out.ofDrew.trans HF3.out).andThen hf4 (by have := HSZ.out; simp [Value.ownBlock]; omega);
                   obtain ⟨w5, w6, hc4w, hmu, hc5, hc52, hcl, hc63, hc64, hf63, hf64, HFIN⟩ := HD.out.torn1 htk.1 htk.2.1 hfr4 hv4 (torn_length hl1 hll (by omega)) 0;
                   clear hown4 hf4 hnn hv4 hfr4 hg1 hg2))
            all_goals
              clear hlw
              go_wp2
              go_end0
              rw [HRS.out]
              exact ⟨rfl, HFIN.out.1, (HFR.out.mono (by simp)).trans HFIN.out.2⟩
          · rcases Int.lt_or_eq_of_le hc1 with hc2 | hc2
            · have hcl0' : clampN cut = 1024 := by unfold clampN; omega
              have hc3 : (1024 : Int) ≤ (cp : Int) := by omega
              have hres : restartD D keep torn cut = wakeD { E with last := upd E.last torn (some (l.take (1024) ++ (pad ll).drop (1024))) } := by
                unfold restartD tornD
                rw [HE.out, HCT.out, HPL.out, hcl0']
              have HRS := Lib.hid hres
              clear hres hcl0'
              go_wp2_with fail
              go_region_held3 (fun w' => w'.cell? ⟨b, 1, none⟩ = some (.map (some ml))) (first | assumption | go_keep)
                (first
                  | (go_at_call 32; refine (clone_n (S := [b, ml, mc]) (l := l.take (1024)) (1024) _ (by exact HB.out.take (by omega)) (by simp) (by rw [List.length_take]; omega) (by omega)).mono ?_; rintro e w2 ⟨g, cap, rfl, hown, hfr2, hg⟩;
                     have hlw2 := (HLK.out w2 hfr2.ofDrew).1; have hcw2 := (HD.out.kept hfr2.ofDrew).cells.2.1; have HOW := Lib.hid hown; have HF2 := Lib.hid hfr2; clear hown hfr2)
                  | (go_at_call 30; refine (whole_k (S := [b, ml, mc]) (l := ll) _ (by exact (HLK.out _ HF2.out.ofDrew).2) hll).mono ?_; rintro e w3 ⟨rfl, hblk, hfr3, hsz3⟩; have hcw3 := (HD.out.kept (HF2.out.ofDrew.trans hfr3)).cells.2.1;
                     have hgl := (HOW.out.lt g rfl).2; have hdl := HD.out.lt; have hs2 := HF2.out.size; have hs3 := hfr3.size; rw [heap_drew] at hs2 hg;
                     have HX3 : Hid (Slc [g, b, ml, mc] w3 (.slice (some ⟨w2.heap.size, 0, none⟩) (0) (0)) (0) (((pad ll).drop (1024)).map byteV)) := Lib.hid (slc_of (by rw [List.length_drop, pad_length hll]) <| bytes_empty (by rw [List.drop_of_length_le (by rw [pad_length hll]; omega)]) _ _);
                     have HO3 := Lib.hid (ownsKept HOW.out hfr3 (by simp)); have HF3 := Lib.hid hfr3; have HSZ := Lib.hid (And.intro hgl (And.intro hdl (And.intro hs2 (And.intro hs3 hg)))); clear hgl hdl hs2 hs3 hblk hfr3 hsz3 hg)
                  | (have _t := hcw3; refine step_append_slc (S := [g, b, ml, mc]) (base := wr.heap.size) (v := .slice (some ⟨g, 0, none⟩) (1024) cap) (xv := .slice (some ⟨w2.heap.size, 0, none⟩) (0) (0)) (n := 1024) (xs := (l.take (1024)).map byteV) (m := 0) (N := 1024) (news := ((pad ll).drop (1024)).map byteV) rfl (.tmp 65) (.tmp 74) 23 rfl Try.underlying23 Try.info5 rfl (by decide) rfl HO3.out rfl HX3.out ?_ ?_ ?_ ?_ ?_ ?_ ?_; rw [List.length_map, List.length_drop, pad_length hll]; exact bytes_one _; omega; unfold maxLen; omega; omega; have := HSZ.out; omega;
                     intro v' w4 hown4 hf4 hnn; obtain ⟨g', cap', rfl, hg1, hg2⟩ := ownsRow_ne hown4 (fun h => by have := (hnn h).1; cases this);
                     have hv4 : Bytes [b, ml, mc] w4 (.slice (some ⟨g', 0, none⟩) 1024 cap') (l.take (1024) ++ (pad ll).drop (1024)) := torn_bytes hl1 (pad_length hll) (by omega) hown4 (by have := HD.out.lt; simp only [List.mem_cons, List.not_mem_nil, or_false]; omega);
                     have hfr4 : Fr [] wr w4 := (HF2.out.ofDrew.trans HF3.out).andThen hf4 (by have := HSZ.out; simp [Value.ownBlock]; omega);
                     obtain ⟨w5, w6, hc4w, hmu, hc5, hc52, hcl, hc63, hc64, hf63, hf64, HFIN⟩ := HD.out.torn1 htk.1 htk.2.1 hfr4 hv4 (torn_length hl1 hll (by omega)) 0;
                     clear hown4 hf4 hnn hv4 hfr4 hg1 hg2))
              all_goals
                clear hlw
                go_wp2
                go_end0
                rw [HRS.out]
                exact ⟨rfl, HFIN.out.1, (HFR.out.mono (by simp)).trans HFIN.out.2⟩
            · subst hc2
              have hcl0' : clampN 1024 = 1024 := by unfold clampN; omega
              have hc3 : (1024 : Int) ≤ (cp : Int) := by omega
              have hres : restartD D keep torn 1024 = wakeD { E with last := upd E.last torn (some (l.take (1024) ++ (pad ll).drop (1024))) } := by
                unfold restartD tornD
                rw [HE.out, HCT.out, HPL.out, hcl0']
              have HRS := Lib.hid hres
              clear hres hcl0'
              go_wp2_with fail
              go_region_held3 (fun w' => w'.cell? ⟨b, 1, none⟩ = some (.map (some ml))) (first | assumption | go_keep)
                (first
                  | (go_at_call 32; refine (clone_n (S := [b, ml, mc]) (l := l.take (1024)) (1024) _ (by exact HB.out.take (by omega)) (by simp) (by rw [List.length_take]; omega) (by omega)).mono ?_; rintro e w2 ⟨g, cap, rfl, hown, hfr2, hg⟩;
                     have hlw2 := (HLK.out w2 hfr2.ofDrew).1; have hcw2 := (HD.out.kept hfr2.ofDrew).cells.2.1; have HOW := Lib.hid hown; have HF2 := Lib.hid hfr2; clear hown hfr2)
                  | (go_at_call 30; refine (whole_k (S := [b, ml, mc]) (l := ll) _ (by exact (HLK.out _ HF2.out.ofDrew).2) hll).mono ?_; rintro e w3 ⟨rfl, hblk, hfr3, hsz3⟩; have hcw3 := (HD.out.kept (HF2.out.ofDrew.trans hfr3)).cells.2.1;
                     have hgl := (HOW.out.lt g rfl).2; have hdl := HD.out.lt; have hs2 := HF2.out.size; have hs3 := hfr3.size; rw [heap_drew] at hs2 hg;
                     have HX3 : Hid (Slc [g, b, ml, mc] w3 (.slice (some ⟨w2.heap.size, 0, none⟩) (0) (0)) (0) (((pad ll).drop (1024)).map byteV)) := Lib.hid (slc_of (by rw [List.length_drop, pad_length hll]) <| bytes_empty (by rw [List.drop_of_length_le (by rw [pad_length hll]; omega)]) _ _);
                     have HO3 := Lib.hid (ownsKept HOW.out hfr3 (by simp)); have HF3 := Lib.hid hfr3; have HSZ := Lib.hid (And.intro hgl (And.intro hdl (And.intro hs2 (And.intro hs3 hg)))); clear hgl hdl hs2 hs3 hblk hfr3 hsz3 hg)
                  | (have _t := hcw3; refine step_append_slc (S := [g, b, ml, mc]) (base := wr.heap.size) (v := .slice (some ⟨g, 0, none⟩) (1024) cap) (xv := .slice (some ⟨w2.heap.size, 0, none⟩) (0) (0)) (n := 1024) (xs := (l.take (1024)).map byteV) (m := 0) (N := 1024) (news := ((pad ll).drop (1024)).map byteV) rfl (.tmp 65) (.tmp 74) 23 rfl Try.underlying23 Try.info5 rfl (by decide) rfl HO3.out rfl HX3.out ?_ ?_ ?_ ?_ ?_ ?_ ?_; rw [List.length_map, List.length_drop, pad_length hll]; exact bytes_one _; omega; unfold maxLen; omega; omega; have := HSZ.out; omega;
                     intro v' w4 hown4 hf4 hnn; obtain ⟨g', cap', rfl, hg1, hg2⟩ := ownsRow_ne hown4 (fun h => by have := (hnn h).1; cases this);
                     have hv4 : Bytes [b, ml, mc] w4 (.slice (some ⟨g', 0, none⟩) 1024 cap') (l.take (1024) ++ (pad ll).drop (1024)) := torn_bytes hl1 (pad_length hll) (by omega) hown4 (by have := HD.out.lt; simp only [List.mem_cons, List.not_mem_nil, or_false]; omega);
                     have hfr4 : Fr [] wr w4 := (HF2.out.ofDrew.trans HF3.out).andThen hf4 (by have := HSZ.out; simp [Value.ownBlock]; omega);
                     obtain ⟨w5, w6, hc4w, hmu, hc5, hc52, hcl, hc63, hc64, hf63, hf64, HFIN⟩ := HD.out.torn1 htk.1 htk.2.1 hfr4 hv4 (torn_length hl1 hll (by omega)) 0;
                     clear hown4 hf4 hnn hv4 hfr4 hg1 hg2))
              all_goals
                clear hlw
                go_wp2
                go_end0
                rw [HRS.out]
                exact ⟨rfl, HFIN.out.1, (HFR.out.mono (by simp)).trans HFIN.out.2⟩
end Go.Proofs.Ytgockpichhgijaa
