/- store: Open, what its loop holds. -/
import Derived.Test.YtgpeoonpoogniaaGB
import Derived.BigQuiet
namespace Go.Proofs.Ytgpeoonpoogniaa
open Go.RowKit Go.MapKept
attribute [local go_sem] ldOp

theorem Try.infoSl : (Try.prog.info? 32).map (fun i => (i.zero, i.size, i.bytes)) = some (some (.slice none 0 0), 1, 24) := by kernel_rfl
theorem sz_alloc (w : World) (o : Obj) : (w.alloc o).heap.size = w.heap.size + 1 := by simp
theorem blk_new' (w : World) (o : Obj) {b : Nat} (h : b = w.heap.size) : (w.alloc o).heap[b]? = some o := by rw [h]; exact blk_new w o
theorem blk_new2 (w : World) (o o2 : Obj) {b : Nat} (h : b = w.heap.size) : ((w.alloc o).alloc o2).heap[b]? = some o := by rw [h]; exact (Fr.alloc1 _ o2).heap (blk_new w o) (by simp)
theorem blk_new'd (w : World) (o : Obj) {b : Nat} (h : b = w.heap.size) : ((w.alloc o).drew).heap[b]? = some o := blk_new' w o h
theorem blk_new2d (w : World) (o o2 : Obj) {b : Nat} (h : b = w.heap.size) : (((w.alloc o).alloc o2).drew).heap[b]? = some o := blk_new2 w o o2 h
/-- append of one element, that lies in a block of its own, at a step of a region that draws; the row is that of an elder world. -/
theorem step_append_one {P : Program} {ops : Array Oper} {o : Oper} {a : Act} {K : Act → World → Prop} {Q : Exit → Act → World → Prop} {E : Prop} {w W0 : World} (hgd : o.guard = none) (s x : Operand) (t : TypeId)
    (ho : o.op = .call { callee := .builtin .append, args := #[s, x], argTypes := #[t, t] })
    {base : Nat} {e : TypeId} {z : Value} {bytes : Nat} (ht : P.underlying t = some (.slice e)) (hi : (P.info? e).map (fun i => (i.zero, i.size, i.bytes)) = some (some z, 1, bytes)) (hzs : z.cells.size = 1)
    {v u : Value} {n : Nat} {xs : List Value} (hs : a.eval s = v) (hown : W0.ownsRow base e 1 v n xs)
    {B : Nat} {T : TypeId} (hxe : a.eval x = .slice (some ⟨B, 0, none⟩) 1 1) (hX : Fr [] W0 w) (hB : w.heap[B]? = some (.cells #[u] T (0, 0))) (h1 : u.oneCell' = true) (h63 : n + 1 ≤ maxLen) (hbytes : (n + 1) * bytes ≤ 140737488355328) (hbase : base ≤ W0.heap.size)
    (h : ∀ v' w', w'.ownsRow base e 1 v' (n + 1) (xs ++ [u]) → Fr v.ownBlock.toList w w' → Fr v.ownBlock.toList W0 w' → (v'.ownBlock = v.ownBlock ∨ ∃ g, v'.ownBlock = some g ∧ W0.heap.size ≤ g) → K (a.put o.dst v') w') :
    if Region.wanted o (yielded ops a.tmps) = true then Oper.wp P o a w K Q else E := by
  obtain ⟨i0, hi0, hz0, hz1, hz2⟩ := info_parts hi
  obtain ⟨v', w', hr, ho2, hg, _, hw⟩ := run_append_own_at (P := P) w base t o.type e i0 z 1 bytes ht hi0 hz0 hz1 hz2 hzs (by decide) v n xs (ownsKept hown hX (by simp)) ⟨B, 0, none⟩ 1 1 [u] rfl (fun j y hj => by
      match j, hj with
      | 0, hj =>
        rw [addr_add, blk_cell hB]
        exact hj) (fun y hy => by simp at hy; subst hy; exact h1) h63 hbytes (Nat.le_trans hbase hX.size)
  refine step_append_run hgd s x t ho (by rw [hs, hxe]; exact hr) (h v' w' ho2 (Fr.grown hg) (hX.nil.trans (Fr.grown hg)) ?_)
  rcases hw with hw | hw
  · exact .inl hw
  · exact .inr ⟨_, hw, hX.size⟩

def openPost (w : World) (b ml mc : Nat) (R : Int × Option StD) (e : Ending) (w' : World) : Prop :=
  Fr [] w w' ∧ ((R.2 = none ∧ e = .returned (.tuple #[.pointer none, .int .i64 R.1])) ∨
    ∃ T sb fm, R = (0, some T) ∧ w.heap.size ≤ sb ∧ w.heap.size ≤ fm ∧ e = .returned (.tuple #[.pointer (some ⟨sb, 0, none⟩), .int .i64 0]) ∧ StoAt w' sb b ml mc fm T)
/-- What Open's loop holds. -/
structure OpAt (w wr : World) (b gs : Nat) (sp : PageD) (pa : Option Addr) (pc : Nat) (ka : Option Addr) (kc : Nat) (da : Option Addr) (dc : Nat) (ga : Option Addr) (gc : Nat) (ls : List Int) (ll : List (List Int)) (lvS lvL : Value) : Prop where
  bs : wr.heap[gs]? = some (.cells (pageCells sp (.slice pa sp.pairs.length pc) (.slice ka sp.keys.length kc) (.slice da sp.kids.length dc) (.slice ga sp.pages.length gc)).toArray 43 (0, 0))
  bb : wr.heap[gs + 1]? = some (.cells (stN b sp (.slice pa sp.pairs.length pc) (.slice ka sp.keys.length kc) (.slice da sp.kids.length dc) (.slice ga sp.pages.length gc) lvS 0 nilV nilV 0 nilV nilV).toArray 78 (0, 0))
  bp : wr.heap[gs + 2]? = some (.cells #[.pointer (some ⟨gs + 1, 0, none⟩)] 28 (0, 0))
  pg : ∀ S : List Nat, (∀ x, x ∈ S → x < w.heap.size ∨ gs ≤ x) → PageIn S wr sp (.slice pa sp.pairs.length pc) (.slice ka sp.keys.length kc) (.slice da sp.kids.length dc) (.slice ga sp.pages.length gc)
  fr : Fr [] w wr
  rowS : wr.ownsRow (gs + 3) 3 1 lvS ls.length (ls.map intV)
  rowL : ∃ vs, vs.length = ll.length ∧ wr.ownsRow (gs + 3) 32 1 lvL ll.length vs ∧ ∀ (i : Nat) (x : Value) (l : List Int), vs[i]? = some x → ll[i]? = some l → Ints ([gs + 1] ++ lvS.ownBlock.toList ++ lvL.ownBlock.toList) wr x l
  ne : ∀ g, lvS.ownBlock = some g → lvL.ownBlock ≠ some g
  old : w.heap.size ≤ gs

theorem own_toList {v : Value} {x : Nat} (h : x ∈ v.ownBlock.toList) : v.ownBlock = some x := by
  cases hb : v.ownBlock with
  | none => rw [hb] at h; cases h
  | some g => rw [hb, Option.toList_some, List.mem_singleton] at h; rw [h]
theorem OpAt.next {w wr w2 W3 w5 w6 : World} {b gs : Nat} {sp : PageD} {pa : Option Addr} {pc : Nat} {ka : Option Addr} {kc : Nat} {da : Option Addr} {dc : Nat} {ga : Option Addr} {gc : Nat} {ls : List Int} {ll : List (List Int)} {m : Int} {pgs : List Int}
    {sa : Option Addr} {sc : Nat} {la : Option Addr} {lc : Nat} {ga2 : Option Addr} {gc2 : Nat} {pa5 : Option Addr} {pc5 : Nat} {pb5 : Option Addr} {pd5 : Nat} {vs : List Value}
    (hat : OpAt w wr b gs sp pa pc ka kc da dc ga gc ls ll (.slice sa ls.length sc) (.slice la ll.length lc))
    (hvs : vs.length = ll.length) (hrl : wr.ownsRow (gs + 3) 32 1 (.slice la ll.length lc) ll.length vs)
    (hel : ∀ (i : Nat) (x : Value) (l : List Int), vs[i]? = some x → ll[i]? = some l → Ints ([gs + 1] ++ (Value.slice sa ls.length sc).ownBlock.toList ++ (Value.slice la ll.length lc).ownBlock.toList) wr x l)
    (hf02 : Fr [] wr w2) (hf23 : Fr [] w2 W3)
    (hi2 : ∀ S : List Nat, (∀ x, x ∈ S → x < wr.heap.size) → Ints S w2 (.slice ga2 pgs.length gc2) pgs)
    (ho5 : w5.ownsRow (gs + 3) 3 1 (.slice pa5 (ls.length + 1) pc5) (ls.length + 1) (ls.map intV ++ [intV m])) (hf5 : Fr (Value.slice sa ls.length sc).ownBlock.toList W3 w5)
    (hp5 : (Value.slice pa5 (ls.length + 1) pc5).ownBlock = (Value.slice sa ls.length sc).ownBlock ∨ ∃ g, (Value.slice pa5 (ls.length + 1) pc5).ownBlock = some g ∧ W3.heap.size ≤ g)
    (ho6 : w6.ownsRow (gs + 3) 32 1 (.slice pb5 (ll.length + 1) pd5) (ll.length + 1) (vs ++ [.slice ga2 pgs.length gc2])) (hf6 : Fr (Value.slice la ll.length lc).ownBlock.toList w5 w6)
    (hp6 : (Value.slice pb5 (ll.length + 1) pd5).ownBlock = (Value.slice la ll.length lc).ownBlock ∨ ∃ g, (Value.slice pb5 (ll.length + 1) pd5).ownBlock = some g ∧ w5.heap.size ≤ g) :
    OpAt w (w6.setCell ⟨gs + 1, 12, none⟩ (.slice pa5 (ls.length + 1) pc5)) b gs sp pa pc ka kc da dc ga gc (ls ++ [m]) (ll ++ [pgs]) (.slice pa5 (ls.length + 1) pc5) (.slice pb5 (ll.length + 1) pd5) := by
  obtain ⟨vA, hvA⟩ : ∃ v, Value.slice sa ls.length sc = v := ⟨_, rfl⟩
  obtain ⟨vB, hvB⟩ : ∃ v, Value.slice la ll.length lc = v := ⟨_, rfl⟩
  obtain ⟨vC, hvC⟩ : ∃ v, Value.slice pa5 (ls.length + 1) pc5 = v := ⟨_, rfl⟩
  obtain ⟨vD, hvD⟩ : ∃ v, Value.slice pb5 (ll.length + 1) pd5 = v := ⟨_, rfl⟩
  rw [hvA] at hat hel hf5 hp5
  rw [hvB] at hat hrl hel hf6 hp6
  rw [hvC] at ho5 hp5 ⊢
  rw [hvD] at ho6 hp6 ⊢
  clear hvA hvB hvC hvD
  have z3 : gs + 3 ≤ wr.heap.size := by have := lt_of_heap hat.bp; omega
  have z2 := hf02.size
  have zW := hf23.size
  have z5 := hf5.size
  have z6 := hf6.size
  have hA : ∀ x, x ∈ vA.ownBlock.toList → gs + 3 ≤ x ∧ x < wr.heap.size := fun x hx => hat.rowS.lt x (own_toList hx)
  have hB : ∀ x, x ∈ vB.ownBlock.toList → gs + 3 ≤ x ∧ x < wr.heap.size := fun x hx => hrl.lt x (own_toList hx)
  have hC : ∀ x, x ∈ vC.ownBlock.toList → gs + 3 ≤ x ∧ x < w5.heap.size ∧ (x ∈ vA.ownBlock.toList ∨ W3.heap.size ≤ x) := fun x hx => by
    have h1 := own_toList hx
    have h2 := ho5.lt x h1
    refine ⟨h2.1, h2.2, ?_⟩
    rcases hp5 with h | ⟨g, h, hg⟩
    · rw [h] at hx; exact .inl hx
    · rw [h] at h1; cases h1; exact .inr hg
  have hD : ∀ x, x ∈ vD.ownBlock.toList → gs + 3 ≤ x ∧ (x ∈ vB.ownBlock.toList ∨ w5.heap.size ≤ x) := fun x hx => by
    have h1 := own_toList hx
    have h2 := ho6.lt x h1
    refine ⟨h2.1, ?_⟩
    rcases hp6 with h | ⟨g, h, hg⟩
    · rw [h] at hx; exact .inl hx
    · rw [h] at h1; cases h1; exact .inr hg
  have hs := Fr.setCell w6 ⟨gs + 1, 12, none⟩ vC
  have hF2 : Fr ([gs + 1] ++ vA.ownBlock.toList ++ vB.ownBlock.toList) w2 (w6.setCell ⟨gs + 1, 12, none⟩ vC) :=
    ((hf23.nil.trans (hf5.mono (by simp_all))).trans (hf6.mono (by simp_all))).trans (hs.mono (by simp))
  have hF : Fr ([gs + 1] ++ vA.ownBlock.toList ++ vB.ownBlock.toList) wr (w6.setCell ⟨gs + 1, 12, none⟩ vC) := hf02.nil.trans hF2
  have hin : ∀ x, x ∈ [gs + 1] ++ vA.ownBlock.toList ++ vB.ownBlock.toList → (x = gs + 1 ∨ gs + 3 ≤ x) ∧ x < wr.heap.size := fun x hx => by
    rcases List.mem_append.1 hx with h | h
    · rcases List.mem_append.1 h with h | h
      · rw [List.mem_singleton.1 h]; exact ⟨.inl rfl, by omega⟩
      · exact ⟨.inr (hA x h).1, (hA x h).2⟩
    · exact ⟨.inr (hB x h).1, (hB x h).2⟩
  have hin2 : ∀ x, x ∈ [gs + 1] ++ vC.ownBlock.toList ++ vD.ownBlock.toList → x ∈ [gs + 1] ++ vA.ownBlock.toList ++ vB.ownBlock.toList ∨ W3.heap.size ≤ x := fun x hx => by
    rcases List.mem_append.1 hx with h | h
    · rcases List.mem_append.1 h with h | h
      · exact .inl (List.mem_append.2 (.inl (List.mem_append.2 (.inl h))))
      · rcases (hC x h).2.2 with h | h
        · exact .inl (List.mem_append.2 (.inl (List.mem_append.2 (.inr h))))
        · exact .inr h
    · rcases (hD x h).2 with h | h
      · exact .inl (List.mem_append.2 (.inr h))
      · exact .inr (by omega)
  have hCB : ∀ g, vC.ownBlock = some g → g ∉ vB.ownBlock.toList := fun g hg hm => by
    have h1 := own_toList hm
    rcases (hC g (by rw [hg]; simp)).2.2 with h | h
    · exact hat.ne g (own_toList h) h1
    · have := (hB g hm).2; omega
  refine ⟨hF.heap hat.bs (fun hm => by have := (hin _ hm).1; omega), ?_, hF.heap hat.bp (fun hm => by have := (hin _ hm).1; omega), fun S hS => ?_, hat.fr.andThen hF (fun x hx => .inr (by have := (hin _ hx).1; have := hat.old; omega)), ?_, ?_, ?_, hat.old⟩
  · have h0 : w6.heap[gs + 1]? = some (.cells (stN b sp (.slice pa sp.pairs.length pc) (.slice ka sp.keys.length kc) (.slice da sp.kids.length dc) (.slice ga sp.pages.length gc) vA 0 nilV nilV 0 nilV nilV).toArray 78 (0, 0)) :=
      hf6.heap (hf5.heap (hf23.heap (hf02.heap hat.bb (by simp)) (by simp)) (fun hm => by have := (hA _ hm).1; omega)) (fun hm => by have := (hB _ hm).1; omega)
    rw [blk_set h0 12 _]
    rfl
  · have h1 := hat.pg (S ++ ([gs + 1] ++ vA.ownBlock.toList ++ vB.ownBlock.toList)) (fun x hx => by
      rcases List.mem_append.1 hx with h | h
      · exact hS x h
      · exact .inr (by have := (hin x h).1; omega))
    have h2 := h1.kept (hF.mono (fun x hx _ => List.mem_append.2 (.inr hx)))
    exact ⟨h2.pairs.mono (fun x hx => List.mem_append.2 (.inl hx)), h2.keys.mono (fun x hx => List.mem_append.2 (.inl hx)), h2.kids.mono (fun x hx => List.mem_append.2 (.inl hx)), h2.pages.mono (fun x hx => List.mem_append.2 (.inl hx))⟩
  · rw [List.map_append, List.length_append]
    exact ownsKept (ownsKept ho5 hf6 hCB) hs (fun g hg hm => by have h6 := (hC g (by rw [hg]; simp)).1; have h7 : g = gs + 1 := (by simpa using hm); omega)
  · refine ⟨vs ++ [.slice ga2 pgs.length gc2], by simp [hvs], ?_, fun i x l hx hl => ?_⟩
    · rw [List.length_append]
      exact ownsKept ho6 hs (fun g hg hm => by have h6 := (hD g (by rw [hg]; simp)).1; have h7 : g = gs + 1 := (by simpa using hm); omega)
    · by_cases hi : i < ll.length
      · rw [List.getElem?_append_left (by omega)] at hx
        rw [List.getElem?_append_left hi] at hl
        have h1 : Ints (([gs + 1] ++ vA.ownBlock.toList ++ vB.ownBlock.toList) ++ ([gs + 1] ++ vC.ownBlock.toList ++ vD.ownBlock.toList)) wr x l := Slc.more (hel i x l hx hl) (fun y hy => by
          rcases List.mem_append.1 hy with h | h
          · exact .inl h
          · rcases hin2 y h with h | h
            · exact .inl h
            · exact .inr (by omega))
        exact (h1.kept (hF.mono (fun x hx _ => List.mem_append.2 (.inl hx)))).mono (fun x hx => List.mem_append.2 (.inr hx))
      · have hi2' : i = ll.length := by
          have := List.getElem?_eq_some_iff.1 hl
          obtain ⟨h, _⟩ := this
          simp at h
          omega
        subst hi2'
        rw [List.getElem?_append_right (by omega), hvs, Nat.sub_self] at hx
        rw [List.getElem?_append_right (by omega), Nat.sub_self] at hl
        simp only [List.getElem?_cons_zero, Option.some.injEq] at hx hl
        subst hx hl
        have h1 : Ints (([gs + 1] ++ vA.ownBlock.toList ++ vB.ownBlock.toList) ++ ([gs + 1] ++ vC.ownBlock.toList ++ vD.ownBlock.toList)) w2 (.slice ga2 pgs.length gc2) pgs := Slc.more (hi2 ([gs + 1] ++ vA.ownBlock.toList ++ vB.ownBlock.toList) (fun x hx => (hin x hx).2)) (fun y hy => by
          rcases List.mem_append.1 hy with h | h
          · exact .inl h
          · rcases hin2 y h with h | h
            · exact .inl h
            · exact .inr (by omega))
        exact (h1.kept (hF2.mono (fun x hx _ => List.mem_append.2 (.inl hx)))).mono (fun x hx => List.mem_append.2 (.inr hx))
  · intro g hg hd
    have h1 := hC g (by rw [hg]; simp)
    rcases (hD g (by rw [hd]; simp)).2 with h | h
    · exact hCB g hg h
    · omega

end Go.Proofs.Ytgpeoonpoogniaa


/- store: Open. -/
namespace Go.Proofs.Ytgpeoonpoogniaa
open Go.RowKit Go.MapKept
attribute [local go_sem] ldOp

set_option maxRecDepth 100000 in
set_option maxHeartbeats 8000000 in
theorem open_k {b ml mc : Nat} {D : Dv} (w : World) (h : DevAt w b ml mc D) (hfl : ∀ ls ll, chainD D (D.n + 2) [] [] (newestD D).1.next = some (ls, ll) → ll.flatten.length ≤ 10000) :
    Calls Try.prog 22 #[.pointer (some ⟨b, 0, none⟩)] w (openPost w b ml mc (openD D)) := by
  have hnd : ∀ w : World, (binOp BinOp.eql 24 (.pointer (some ⟨b, 0, none⟩)) (.pointer none)).run Try.prog w = .ok (.bool false) w := fun _ => by kernel_rfl
  have HD := Lib.hid h
  have HNW := Lib.hid (newest_k w h)
  obtain ⟨⟨sp, e0⟩, hnw⟩ : ∃ x, newestD D = x := ⟨_, rfl⟩
  rw [hnw] at hfl
  have HFL := Lib.hid hfl
  have HO : Hid (openD D = if e0 ≠ 0 then (e0, none) else match chainD D (D.n + 2) [] [] sp.next with
    | none => (71, none)
    | some (ls, ll) => if (ofP sp.high ll).2 ≠ 0 ∨ (D.n : Int) < sp.high ∨ ls.any (badP sp.high (ofP sp.high ll).1.free) = true then (71, none)
      else (0, some (StD.abort ⟨D, sp, ls, (ofP sp.high ll).1, ⟨0, [], []⟩, fun _ => false⟩))) := Lib.hid (by unfold openD; rw [hnw]; rfl)
  rw [hnw] at HNW
  clear h hnw hfl
  go_enter Try.func22, Try.ntmps22
  go_wp2
  go_step3
  go_wp2_with fail
  with_reducible refine HNW.out.mono ?_
  rintro e w1 ⟨pv, kv, dv, gv, rfl, hi, hf1⟩
  obtain ⟨pa, pc, rfl, _⟩ := Slc.form (hi [] (by simp)).pairs
  obtain ⟨ka, kc, rfl, _⟩ := Slc.form (hi [] (by simp)).keys
  obtain ⟨da, dc, rfl, _⟩ := Slc.form (hi [] (by simp)).kids
  obtain ⟨ga, gc, rfl, _⟩ := Slc.form (hi [] (by simp)).pages
  have HI := Lib.hid hi
  have HF1 := Lib.hid hf1
  clear hi hf1 HNW
  by_cases h0 : e0 = 0
  · subst h0
    obtain ⟨W4, hW4⟩ : ∃ W4, ((w1.alloc (.cells (pageCells sp (.slice pa sp.pairs.length pc) (.slice ka sp.keys.length kc) (.slice da sp.kids.length dc) (.slice ga sp.pages.length gc)).toArray 43)).alloc (.cells (stN b sp (.slice pa sp.pairs.length pc) (.slice ka sp.keys.length kc) (.slice da sp.kids.length dc) (.slice ga sp.pages.length gc) nilV 0 nilV nilV 0 nilV nilV).toArray 78)).alloc (.cells #[.pointer (some ⟨w1.heap.size + 1, 0, none⟩)] 28) = W4 := ⟨_, rfl⟩
    have H0 : Hid (OpAt w W4 b w1.heap.size sp pa pc ka kc da dc ga gc [] [] nilV nilV) := Lib.hid (by
      have f1 := Fr.alloc1 w1 (.cells (pageCells sp (.slice pa sp.pairs.length pc) (.slice ka sp.keys.length kc) (.slice da sp.kids.length dc) (.slice ga sp.pages.length gc)).toArray 43)
      have f2 := Fr.alloc1 (w1.alloc (.cells (pageCells sp (.slice pa sp.pairs.length pc) (.slice ka sp.keys.length kc) (.slice da sp.kids.length dc) (.slice ga sp.pages.length gc)).toArray 43)) (.cells (stN b sp (.slice pa sp.pairs.length pc) (.slice ka sp.keys.length kc) (.slice da sp.kids.length dc) (.slice ga sp.pages.length gc) nilV 0 nilV nilV 0 nilV nilV).toArray 78)
      have f3 := Fr.alloc1 ((w1.alloc (.cells (pageCells sp (.slice pa sp.pairs.length pc) (.slice ka sp.keys.length kc) (.slice da sp.kids.length dc) (.slice ga sp.pages.length gc)).toArray 43)).alloc (.cells (stN b sp (.slice pa sp.pairs.length pc) (.slice ka sp.keys.length kc) (.slice da sp.kids.length dc) (.slice ga sp.pages.length gc) nilV 0 nilV nilV 0 nilV nilV).toArray 78)) (.cells #[.pointer (some ⟨w1.heap.size + 1, 0, none⟩)] 28)
      have b2 := blk_new (w1.alloc (.cells (pageCells sp (.slice pa sp.pairs.length pc) (.slice ka sp.keys.length kc) (.slice da sp.kids.length dc) (.slice ga sp.pages.length gc)).toArray 43)) (.cells (stN b sp (.slice pa sp.pairs.length pc) (.slice ka sp.keys.length kc) (.slice da sp.kids.length dc) (.slice ga sp.pages.length gc) nilV 0 nilV nilV 0 nilV nilV).toArray 78)
      have b3 := blk_new ((w1.alloc (.cells (pageCells sp (.slice pa sp.pairs.length pc) (.slice ka sp.keys.length kc) (.slice da sp.kids.length dc) (.slice ga sp.pages.length gc)).toArray 43)).alloc (.cells (stN b sp (.slice pa sp.pairs.length pc) (.slice ka sp.keys.length kc) (.slice da sp.kids.length dc) (.slice ga sp.pages.length gc) nilV 0 nilV nilV 0 nilV nilV).toArray 78)) (.cells #[.pointer (some ⟨w1.heap.size + 1, 0, none⟩)] 28)
      rw [hW4] at f3 b3
      have e1 : (w1.alloc (.cells (pageCells sp (.slice pa sp.pairs.length pc) (.slice ka sp.keys.length kc) (.slice da sp.kids.length dc) (.slice ga sp.pages.length gc)).toArray 43)).heap.size = w1.heap.size + 1 := by simp
      have e2 : ((w1.alloc (.cells (pageCells sp (.slice pa sp.pairs.length pc) (.slice ka sp.keys.length kc) (.slice da sp.kids.length dc) (.slice ga sp.pages.length gc)).toArray 43)).alloc (.cells (stN b sp (.slice pa sp.pairs.length pc) (.slice ka sp.keys.length kc) (.slice da sp.kids.length dc) (.slice ga sp.pages.length gc) nilV 0 nilV nilV 0 nilV nilV).toArray 78)).heap.size = w1.heap.size + 2 := by simp
      rw [e1] at b2
      rw [e2] at b3
      have hs1 := HF1.out.size
      refine ⟨f3.heap (f2.heap (blk_new w1 _) (by simp)) (by simp), f3.heap b2 (by simp), b3, fun S hS => ?_, ((HF1.out.trans f1).trans f2).trans f3, World.ownsRow_nil _ _ _ _, ⟨[], rfl, World.ownsRow_nil _ _ _ _, fun i x l hx _ => by simp at hx⟩, fun g hg => (by cases hg), hs1⟩
      have hp : PageIn S w1 sp (.slice pa sp.pairs.length pc) (.slice ka sp.keys.length kc) (.slice da sp.kids.length dc) (.slice ga sp.pages.length gc) := (HI.out (S.filter (fun x => decide (x < w.heap.size))) (fun x hx => by simpa using (List.mem_filter.1 hx).2)).more (fun x hx => by
        rcases hS x hx with h | h
        · exact .inl (List.mem_filter.2 ⟨hx, by simpa using h⟩)
        · exact .inr h)
      exact ((hp.kept f1.nil).kept f2.nil).kept f3.nil)
    unfold pageCells stN at hW4
    unfold pageCells
    dsimp only at hW4 ⊢
    clear HI
    go_wp2_with fail
    have z5 : W4.cell? ⟨w1.heap.size, 5, none⟩ = some (.int .i64 sp.next) := by rw [blk_cell H0.out.bs 5]; rfl
    go_step3
    go_wp2
    clear hW4 z5
    have HC0 : Hid (∃ R, chainD D (D.n + 2) [] [] sp.next = R) := Lib.hid ⟨_, rfl⟩
    obtain ⟨R, hR⟩ := HC0.out
    have HR := Lib.hid hR
    clear hR HC0
    go_loopw [2, 3, 7, 8] (fun v2 v3 lvL n wr => ∃ (ls : List Int) (ll : List (List Int)) (lvS : Value) (f : Nat) (m : Int), v2 = .pointer none ∧ v3 = .int .i64 0 ∧ n = .int .i64 m ∧ OpAt w wr b w1.heap.size sp pa pc ka kc da dc ga gc ls ll lvS lvL ∧ chainD D f ls ll m = R ∧ f + ls.length = D.n + 2 ∧ ls.Nodup ∧ (∀ x ∈ ls, 0 ≤ x ∧ x < (D.n : Int)) ∧ ll.length = ls.length) (fun _ _ v _ _ => D.n + 2 - lenV v)
    case atStart => exact ⟨[], [], nilV, D.n + 2, sp.next, rfl, rfl, rfl, H0.out, HR.out, by simp, List.nodup_nil, by simp, rfl⟩
    case round =>
      obtain ⟨ls, ll, lvS, f, m, rfl, rfl, rfl, hat, hR, hf, hnd2, hin, hll⟩ := hrel
      have HAT := Lib.hid hat
      have HRR := Lib.hid hR
      have HIN := Lib.hid (And.intro hf (And.intro hnd2 (And.intro hin hll)))
      have p0 : wr.cell? ⟨w1.heap.size + 2, 0, none⟩ = some (.pointer (some ⟨w1.heap.size + 1, 0, none⟩)) := by rw [blk_cell hat.bp 0]; rfl
      have HPG := Lib.hid (page_d m wr (by rw [blk_cell hat.bb 0]; rfl) (HD.out.kept hat.fr))
      clear hat hR hf hnd2 hin hll
      by_cases hm0 : m = 0
      · have b0 : (m != 0) = false := by simpa using hm0
        subst hm0
        have HRS : Hid (R = some (ls, ll)) := Lib.hid (by
          have h1 := nodup_len D.n ls HIN.out.2.1 HIN.out.2.2.1
          have h2 := HIN.out.1
          obtain ⟨f', rfl⟩ : ∃ f', f = f' + 1 := ⟨f - 1, by omega⟩
          rw [← HRR.out]
          rfl)
        have HOE : Hid (openD D = if (ofP sp.high ll).2 ≠ 0 ∨ (D.n : Int) < sp.high ∨ ls.any (badP sp.high (ofP sp.high ll).1.free) = true then (71, none)
          else (0, some (StD.abort ⟨D, sp, ls, (ofP sp.high ll).1, ⟨0, [], []⟩, fun _ => false⟩))) := Lib.hid (by rw [HO.out, if_neg (by simp), HR.out, HRS.out])
        have q10 : wr.cell? ⟨w1.heap.size, 10, none⟩ = some (.int .i64 sp.high) := by rw [blk_cell HAT.out.bs 10]; rfl
        have hlr : IntRows [] wr u7 ll := by
          obtain ⟨vs, hv, hro, hrs⟩ := HAT.out.rowL
          exact ⟨vs, hv, by have := Slc.ofOwns (S := []) hro (by simp); exact this, fun i x l hx hl => (hrs i x l hx hl).mono (by simp)⟩
        obtain ⟨bc, hbc⟩ : ∃ bc, (⟨sp.high, ll.flatten, []⟩ : PoolD).check 4096 = bc := ⟨_, rfl⟩
        have HOF := Lib.hid (of_k (S := []) sp.high wr.drew (hlr.kept (Fr.refl [] _).drew) (HFL.out ls ll (by rw [HR.out, HRS.out])) (by have h1 := nodup_len D.n ls HIN.out.2.1 HIN.out.2.2.1; have h2 := HD.out.fine.n4; have h3 := HIN.out.2.2.2; omega) hbc)
        have HOR : Hid (ofP sp.high ll = if bc then (⟨sp.high, ll.flatten, []⟩, 0) else (⟨0, [], []⟩, 61)) := Lib.hid (by unfold ofP; rw [hbc])
        rw [← HOR.out] at HOF
        obtain ⟨sa, sc, rfl, _⟩ := (Slc.ofOwns (S := []) HAT.out.rowS (by simp)).form
        obtain ⟨⟨bp0, be⟩, hbq⟩ : ∃ x, ofP sp.high ll = x := ⟨_, rfl⟩
        have HBF : Hid (bp0.free.length ≤ 1048576) := Lib.hid (by
          have h1 := HFL.out ls ll (by rw [HR.out, HRS.out])
          have h2 := HOR.out
          rw [hbq] at h2
          cases bc
          · rw [if_neg (by simp)] at h2
            have h3 := congrArg (fun x => x.1.free) h2
            simp only at h3
            simp [h3]
          · rw [if_pos rfl] at h2
            have h3 := congrArg (fun x => x.1.free) h2
            simp only at h3
            rw [h3]
            omega)
        rw [hbq] at HOF HOE
        dsimp only at HOE
        clear HPG hlr hbc hbq
        go_upto_region 15 with fail
        go_cut [5] from 68 to 77 (fun x wz => x = .int .i64 be ∧ ∃ fa fc la lc, wz.heap[w1.heap.size + 1]? = some (.cells (stN b sp (.slice pa sp.pairs.length pc) (.slice ka sp.keys.length kc) (.slice da sp.kids.length dc) (.slice ga sp.pages.length gc) (.slice sa ls.length sc) bp0.high (.slice fa bp0.free.length fc) (.slice la bp0.limbo.length lc) 0 nilV nilV).toArray 78 (0, 0)) ∧ Fr [w1.heap.size + 1] wr wz ∧
          ∀ S : List Nat, (∀ x, x ∈ S → x < wr.heap.size) → Ints S wz (.slice fa bp0.free.length fc) bp0.free ∧ Ints S wz (.slice la bp0.limbo.length lc) bp0.limbo)
        case first =>
          have hcc : wr.cell? ⟨w1.heap.size + 2, 0, none⟩ = some (.pointer (some ⟨w1.heap.size + 1, 0, none⟩)) ∧ wr.cell? ⟨w1.heap.size, 10, none⟩ = some (.int .i64 sp.high) := ⟨p0, q10⟩
          have HCC := Lib.hid hcc
          have HMV : Hid (∀ W, Fr [] wr W → W.cell? ⟨w1.heap.size + 2, 0, none⟩ = some (.pointer (some ⟨w1.heap.size + 1, 0, none⟩)) ∧ W.cell? ⟨w1.heap.size, 10, none⟩ = some (.int .i64 sp.high)) := Lib.hid fun W hf => ⟨hf.cellSome p0 (by simp), hf.cellSome q10 (by simp)⟩
          have HD5 := Lib.hid (HMV.out _ (Fr.refl [] wr).drew)
          have HKK : Hid (∀ (W : World) (i : Nat) (v : Value), W.cell? ⟨w1.heap.size + 2, 0, none⟩ = some (.pointer (some ⟨w1.heap.size + 1, 0, none⟩)) ∧ W.cell? ⟨w1.heap.size, 10, none⟩ = some (.int .i64 sp.high) → (W.setCell ⟨w1.heap.size + 1, i, none⟩ v).cell? ⟨w1.heap.size + 2, 0, none⟩ = some (.pointer (some ⟨w1.heap.size + 1, 0, none⟩)) ∧ (W.setCell ⟨w1.heap.size + 1, i, none⟩ v).cell? ⟨w1.heap.size, 10, none⟩ = some (.int .i64 sp.high)) := Lib.hid fun W i v h => by
            have hs := Fr.setCell W ⟨w1.heap.size + 1, i, none⟩ v
            exact ⟨hs.cellSome h.1 (by simp), hs.cellSome h.2 (by simp)⟩
          go_region_held3 (fun w' => w'.cell? ⟨w1.heap.size + 2, 0, none⟩ = some (.pointer (some ⟨w1.heap.size + 1, 0, none⟩)) ∧ w'.cell? ⟨w1.heap.size, 10, none⟩ = some (.int .i64 sp.high)) (first | with_reducible exact HD5.out | with_reducible exact HC5.out | with_reducible exact HCC.out | ((repeat with_reducible refine HKK.out _ _ _ ?_); with_reducible exact HC5.out))
            (first
            | (go_at_call 45
               with_reducible refine HOF.out.mono ?_
               intro e w5 h5
               obtain ⟨fa, fc, la, lc, rfl, hi5, hf5⟩ := giveP.any h5 (Fr.refl [] wr).drew
               dsimp only at hi5 hf5 ⊢
               have HI5 := Lib.hid hi5
               have HF5 := Lib.hid hf5
               have HC5 := Lib.hid (HMV.out w5 hf5)
               have hb5 := hf5.heap HAT.out.bb (by simp)
               have HB5 := Lib.hid hb5
               have d13 := blk_cell hb5 13
               have d14 := blk_cell hb5 14
               have d15 := blk_cell hb5 15
               have f13 := blk_free hb5 13
               have f14 := blk_free hb5 14
               have f15 := blk_free hb5 15
               simp only [stN, List.getElem?_toArray, List.getElem?_cons_zero, List.getElem?_cons_succ] at d13 d14 d15
               clear h5 hi5 hf5 hb5))
          all_goals
            go_wp2_with fail
            go_meet
            have hs := ((Fr.setCell w5 ⟨w1.heap.size + 1, 13, none⟩ (.int .i64 bp0.high)).trans (Fr.setCell _ ⟨w1.heap.size + 1, 14, none⟩ (.slice fa bp0.free.length fc))).trans (Fr.setCell _ ⟨w1.heap.size + 1, 15, none⟩ (.slice la bp0.limbo.length lc))
            refine ⟨rfl, fa, fc, la, lc, by rw [blk_set (blk_set (blk_set HB5.out 13 _) 14 _) 15 _]; rfl, HF5.out.nil.trans hs, fun S hS => ?_⟩
            have hsb := lt_of_heap HAT.out.bb
            obtain ⟨g1, g2⟩ := HI5.out ((w1.heap.size + 1) :: S) (fun x hx => by
              rcases List.mem_cons.1 hx with h | h
              · omega
              · exact hS x h)
            exact ⟨(g1.kept (hs.mono (by simp))).mono (fun x hx => List.mem_cons_of_mem _ hx), (g2.kept (hs.mono (by simp))).mono (fun x hx => List.mem_cons_of_mem _ hx)⟩
        case rest =>
          obtain ⟨rfl, fa, fc, la, lc, hbz, hfz, hiz⟩ := hcut
          have HBZ := Lib.hid hbz
          have HFZ := Lib.hid hfz
          have HIZ := Lib.hid hiz
          have r0 : wc.cell? ⟨w1.heap.size + 2, 0, none⟩ = some (.pointer (some ⟨w1.heap.size + 1, 0, none⟩)) := hfz.cellSome p0 (by simp)
          have r10 : wc.cell? ⟨w1.heap.size, 10, none⟩ = some (.int .i64 sp.high) := hfz.cellSome q10 (by simp)
          have r12 : wc.cell? ⟨w1.heap.size + 1, 12, none⟩ = some (.slice sa ls.length sc) := by rw [blk_cell hbz 12]; rfl
          have hmf : ∀ (fn : Fn) (first cap : Array Value) (w : World), (Instr.makeFunc fn first cap).run Try.prog w = .ok (.func fn first cap) w := fun _ _ _ _ => rfl
          clear hbz hfz hiz HOF
          go_upto_region 17 with fail
          have hfr : Fr [] w wc := HAT.out.fr.andThen HFZ.out (fun x hx => .inr (by rw [List.mem_singleton.1 hx]; have := HAT.out.old; omega))
          have HFR := Lib.hid hfr
          have HSC := Lib.hid (fun n => sectors_k (wc.drewN n) (HD.out.kept (hfr.trans (frN wc n))))
          obtain ⟨bb, hbb⟩ : ∃ bb, ls.any (badP sp.high bp0.free) = bb := ⟨_, rfl⟩
          have hlen : ls.length ≤ 1048576 := by have h1 := nodup_len D.n ls HIN.out.2.1 HIN.out.2.2.1; have h2 := HD.out.fine.n4; omega
          have hls : Ints [] wc (.slice sa ls.length sc) ls := by
            have h1 : Ints [w1.heap.size + 1] wr (.slice sa ls.length sc) ls := Slc.ofOwns (S := [w1.heap.size + 1]) HAT.out.rowS (by simp)
            exact (h1.kept HFZ.out).mono (by simp)
          have HCF := Lib.hid (fun k => containsFn_k (S := []) 46 #[.pointer (some ⟨w1.heap.size, 0, none⟩), .pointer (some ⟨w1.heap.size + 2, 0, none⟩)] (badP sp.high bp0.free) (wc.drewN k)
            (hls.kept (frN wc k)) hlen (fun _ _ => rfl)
            (fun n hn => openbad_k (S := []) w1.heap.size (w1.heap.size + 2) (w1.heap.size + 1) n (wc.drewN k) ((frN wc k).cellSome r10 (by simp)) ((frN wc k).cellSome r0 (by simp)) (by rw [blk_cell ((frN wc k).heap HBZ.out (by simp)) 14]; rfl) ((HIZ.out [] (by simp)).1.kept (frN wc k)) HBF.out) hbb)
          have HBQ := Lib.hid hbb
          clear hls hlen hbb
          obtain ⟨B3, hB3⟩ : ∃ B3, (decide (be ≠ 0) || decide ((D.n : Int) < sp.high) || bb) = B3 := ⟨_, rfl⟩
          clear hfr
          go_cut [95] from 79 to 95 (fun x wz => x = .bool B3 ∧ Fr [] wc wz)
          case first =>
            by_cases hbe : be = 0
            · subst hbe
              by_cases hsh : (D.n : Int) < sp.high
              · have hx : B3 = true := by rw [← hB3]; simp [hsh]
                subst hx
                clear hB3
                go_quiet ((go_at_call 47; exact quietM (HSC.out _)))
                go_wp2
                go_meet
                exact ⟨rfl, frN _ _⟩
              · have hx : B3 = bb := by rw [← hB3]; simp [hsh]
                have bsh : decide ((D.n : Int) < sp.high) = false := by simpa using hsh
                subst hx
                clear hB3 hsh
                go_quiet (first | (go_at_call 47; exact quietM (HSC.out _)) | (go_at_call 48; exact quietM (HCF.out _)))
                go_wp2
                go_meet
                exact ⟨rfl, frN _ _⟩
            · have hx : B3 = true := by rw [← hB3]; simp [hbe]
              have b9 : (be != 0) = true := by simpa using hbe
              subst hx
              clear hB3 hbe
              go_quiet (fail)
              go_wp2
              go_meet
              exact ⟨rfl, frN _ _⟩
          case rest =>
            obtain ⟨rfl, hfy⟩ := hcut
            have ry : wc.cell? ⟨w1.heap.size + 2, 0, none⟩ = some (.pointer (some ⟨w1.heap.size + 1, 0, none⟩)) := hfy.cellSome r0 (by simp)
            have hfw := HFR.out.trans hfy
            have HFW := Lib.hid hfw
            have HB3 := Lib.hid hB3
            have hsn : be = 0 → StoN wc (w1.heap.size + 1) b ml mc ⟨D, sp, ls, bp0, ⟨0, [], []⟩, fun _ => false⟩ := fun _ => by
              have hlt := HD.out.lt
              have hlo := HAT.out.old
              have hsb := lt_of_heap HAT.out.bb
              refine ⟨⟨_, _, _, _, _, _, _, _, _, hfy.heap HBZ.out (by simp), ⟨((HAT.out.pg [w1.heap.size + 1, b, ml, mc] (fun x hx => ?_)).kept (HFZ.out.mono (by simp))).kept hfy.nil, (Slc.kept (Slc.ofOwns (S := [w1.heap.size + 1, b, ml, mc]) HAT.out.rowS (fun x hx => ?_)) (HFZ.out.mono (by simp))).kept hfy.nil, ((HIZ.out [w1.heap.size + 1, b, ml, mc] (fun x hx => ?_)).1).kept hfy.nil, ((HIZ.out [w1.heap.size + 1, b, ml, mc] (fun x hx => ?_)).2).kept hfy.nil, Slc.nil _ _, Slc.nil _ _⟩⟩, HD.out.kept hfw⟩
              all_goals
                simp only [List.mem_cons, List.not_mem_nil, or_false] at hx
                rcases hx with h | h | h | h <;> omega
            have HSN := Lib.hid hsn
            clear r0 r10 r12 hfy hfw hB3 hsn HSC HCF hmf
            cases B3
            · have hbe : be = 0 := by have h := HB3.out; simp only [Bool.or_eq_false_iff, decide_eq_false_iff_not, Decidable.not_not] at h; exact h.1.1
              have HAB := Lib.hid (abort_new wc (HSN.out hbe))
              have HP : Hid (openD D = (0, some (StD.abort ⟨D, sp, ls, bp0, ⟨0, [], []⟩, fun _ => false⟩))) := Lib.hid (by
                rw [HOE.out, if_neg]
                have h := HB3.out
                rw [← HBQ.out] at h
                simp only [Bool.or_eq_false_iff, decide_eq_false_iff_not] at h
                rintro (h1 | h1 | h1)
                · exact h.1.1 h1
                · exact h.1.2 h1
                · rw [h1] at h; exact absurd h.2 (by decide))
              clear hbe
              go_wp2_with fail
              with_reducible refine HAB.out.mono ?_
              rintro e w5 ⟨rfl, hst, hfa⟩
              have rz := hfa.cellSome ry (by simp)
              have HST := Lib.hid hst
              have HFA := Lib.hid hfa
              clear hst hfa ry
              go_wp2_with fail
              go_ret2
              rw [HP.out]
              have hlo := HAT.out.old
              exact ⟨HFW.out.andThen HFA.out (fun x hx => .inr (by rw [List.mem_singleton.1 hx]; omega)), .inr ⟨_, w1.heap.size + 1, wc.heap.size, rfl, by omega, HFW.out.size, rfl, HST.out⟩⟩
            · have HP : Hid (openD D = (71, none)) := Lib.hid (by
                rw [HOE.out, if_pos]
                have h := HB3.out
                rw [← HBQ.out] at h
                simp only [Bool.or_eq_true, decide_eq_true_eq] at h
                rcases h with (h | h) | h
                · exact .inl h
                · exact .inr (.inl h)
                · exact .inr (.inr h))
              go_wp2_with fail
              go_ret2
              rw [HP.out]
              exact ⟨HFW.out, .inl ⟨rfl, rfl⟩⟩
      · have b0 : (m != 0) = true := by simpa using hm0
        have HM0 := Lib.hid hm0
        clear hm0
        go_wp2_with fail
        with_reducible refine HPG.out.mono ?_
        rintro e w2 ⟨pv2, kv2, dv2, gv2, rfl, hi2, hf2⟩
        obtain ⟨pa2, pc2, rfl, _⟩ := Slc.form (hi2 [] (by simp)).pairs
        obtain ⟨ka2, kc2, rfl, _⟩ := Slc.form (hi2 [] (by simp)).keys
        obtain ⟨da2, dc2, rfl, _⟩ := Slc.form (hi2 [] (by simp)).kids
        obtain ⟨ga2, gc2, rfl, _⟩ := Slc.form (hi2 [] (by simp)).pages
        have HI2 := Lib.hid hi2
        have HF2 := Lib.hid hf2
        have HIS : Hid (∃ f', f = f' + 1 ∧ R = if (pageD D m).2 ≠ 0 ∨ (pageD D m).1.kind ≠ 3 ∨ m ∈ ls then none else chainD D f' (ls ++ [m]) (ll ++ [(pageD D m).1.pages]) (pageD D m).1.next) := Lib.hid (by
          have h1 := nodup_len D.n ls HIN.out.2.1 HIN.out.2.2.1
          have h2 := HIN.out.1
          obtain ⟨f', rfl⟩ : ∃ f', f = f' + 1 := ⟨f - 1, by omega⟩
          refine ⟨f', rfl, ?_⟩
          rw [← HRR.out]
          show (if m = 0 then some (ls, ll) else if (pageD D m).2 ≠ 0 ∨ (pageD D m).1.kind ≠ 3 ∨ m ∈ ls then none else chainD D f' (ls ++ [m]) (ll ++ [(pageD D m).1.pages]) (pageD D m).1.next) = _
          exact if_neg HM0.out)
        have HNO : Hid (R = none → openD D = (71, none)) := Lib.hid (fun h => by
          rw [HO.out, if_neg (by simp), HR.out, h])
        have hfa := Lib.hid (fun o => (HAT.out.fr.trans HF2.out).trans (Fr.alloc1 w2 o))
        clear hi2 hf2 HPG
        obtain ⟨⟨pp, pe⟩, hpp⟩ : ∃ x, pageD D m = x := ⟨_, rfl⟩
        have HPI : Hid ((pageD D m).2 = 0 → 0 ≤ m ∧ m < (D.n : Int)) := Lib.hid pageD_in
        rw [hpp] at HIS HI2 HPI ⊢
        clear hpp
        unfold pageCells
        dsimp only at HIS HI2 ⊢
        by_cases he1 : pe = 0
        · subst he1
          obtain ⟨W3, hW3⟩ : ∃ W3, w2.alloc (.cells (pageCells pp (.slice pa2 pp.pairs.length pc2) (.slice ka2 pp.keys.length kc2) (.slice da2 pp.kids.length dc2) (.slice ga2 pp.pages.length gc2)).toArray 43) = W3 := ⟨_, rfl⟩
          have hal3 : Fr [] w2 W3 := by rw [← hW3]; exact Fr.alloc1 w2 _
          have hbk3 : W3.heap[w2.heap.size]? = some (.cells (pageCells pp (.slice pa2 pp.pairs.length pc2) (.slice ka2 pp.keys.length kc2) (.slice da2 pp.kids.length dc2) (.slice ga2 pp.pages.length gc2)).toArray 43 (0, 0)) := by rw [← hW3]; exact blk_new w2 _
          have hf23 := HF2.out.trans hal3
          have k0 : W3.cell? ⟨w2.heap.size, 0, none⟩ = some (.int .i64 pp.kind) := by rw [blk_cell hbk3 0]; rfl
          have hbb := hf23.heap HAT.out.bb (by simp)
          have hbp := hf23.heap HAT.out.bp (by simp)
          have p3 : W3.cell? ⟨w1.heap.size + 2, 0, none⟩ = some (.pointer (some ⟨w1.heap.size + 1, 0, none⟩)) := by rw [blk_cell hbp 0]; rfl
          obtain ⟨sa, sc, rfl, _⟩ := (Slc.ofOwns (S := []) HAT.out.rowS (by simp)).form
          have s12 : W3.cell? ⟨w1.heap.size + 1, 12, none⟩ = some (.slice sa ls.length sc) := by rw [blk_cell hbb 12]; rfl
          have HBK3 := Lib.hid hbk3
          have HF3 := Lib.hid hf23
          obtain ⟨ct, hct⟩ : ∃ ct, decide (m ∈ ls) = ct := ⟨_, rfl⟩
          have HCT := Lib.hid (contains_k (S := []) (v := .slice sa ls.length sc) m W3 (Ints.kept (Slc.ofOwns (S := []) HAT.out.rowS (by simp)) hf23) (by have h1 := nodup_len D.n ls HIN.out.2.1 HIN.out.2.2.1; have h2 := HD.out.fine.n4; omega) hct)
          unfold pageCells at hW3
          have HAL3 := Lib.hid hal3
          clear hal3 hbk3 hf23 hbb hbp
          by_cases hk3 : pp.kind = 3
          · have b3 : (pp.kind != 3) = false := by simpa using hk3
            have HCTE := Lib.hid hct
            have HK3 := Lib.hid hk3
            have HE := Lib.hid (HAT.out.fr.trans HF3.out)
            clear hk3 hct
            cases ct
            · go_wp2_with fail
              with_reducible refine HCT.out.mono ?_
              rintro e w4 ⟨rfl, rfl⟩
              go_upto_region 13 with fail
              obtain ⟨vs, hvs, hrl, hel⟩ := HAT.out.rowL
              obtain ⟨la, lc, rfl, _⟩ := (Slc.ofOwns (S := []) hrl (by simp)).form
              have HEL := Lib.hid (And.intro hvs (And.intro hrl hel))
              have hd3 := (Fr.refl [] W3).drew
              have HD3 := Lib.hid hd3
              have HWA : Hid (W3.ownsRow (w1.heap.size + 3) 3 1 (.slice sa ls.length sc) ls.length (ls.map intV)) := Lib.hid (ownsKept HAT.out.rowS HF3.out (by simp))
              have HWB : Hid (W3.ownsRow (w1.heap.size + 3) 32 1 (.slice la ll.length lc) ll.length vs) := Lib.hid (ownsKept hrl HF3.out (by simp))
              have HSZ : Hid (w1.heap.size + 3 ≤ wr.heap.size ∧ wr.heap.size ≤ W3.heap.size ∧ ls.length ≤ 5000 ∧ ll.length ≤ 5000 ∧ w2.heap.size < W3.heap.size ∧ wr.heap.size ≤ w2.heap.size) := Lib.hid (by
                have h1 := nodup_len D.n ls HIN.out.2.1 HIN.out.2.2.1
                have h2 := HD.out.fine.n4
                have h3 := HIN.out.2.2.2
                exact ⟨by have := lt_of_heap HAT.out.bp; omega, HF3.out.size, by omega, by omega, by have := lt_of_heap HBK3.out; omega, HF2.out.size⟩)
              have HOA : Hid (∀ x, x ∈ (Value.slice sa ls.length sc).ownBlock.toList → w1.heap.size + 3 ≤ x ∧ x < wr.heap.size) := Lib.hid fun x hx => HAT.out.rowS.lt x (own_toList hx)
              have HOB : Hid (∀ x, x ∈ (Value.slice la ll.length lc).ownBlock.toList → w1.heap.size + 3 ≤ x ∧ x < wr.heap.size) := Lib.hid fun x hx => hrl.lt x (own_toList hx)
              have q9 : W3.cell? ⟨w2.heap.size, 4, none⟩ = some (.slice ga2 pp.pages.length gc2) := by rw [blk_cell HBK3.out 4]; rfl
              have q5 : W3.cell? ⟨w2.heap.size, 5, none⟩ = some (.int .i64 pp.next) := by rw [blk_cell HBK3.out 5]; rfl
              have HMV : Hid (∀ R W, Fr R W3 W → (∀ x, x ∈ R → w1.heap.size + 3 ≤ x ∧ x < wr.heap.size) → W.cell? ⟨w1.heap.size + 2, 0, none⟩ = some (.pointer (some ⟨w1.heap.size + 1, 0, none⟩)) ∧ W.cell? ⟨w2.heap.size, 4, none⟩ = some (.slice ga2 pp.pages.length gc2)) := Lib.hid fun R W hf hR =>
                ⟨hf.cellSome p3 (fun hm => by have h7 : w1.heap.size + 3 ≤ w1.heap.size + 2 := (hR _ hm).1; omega), hf.cellSome q9 (fun hm => by have h7 : w2.heap.size < wr.heap.size := (hR _ hm).2; have h8 := HSZ.out; omega)⟩
              have HMW : Hid (∀ W, Fr [] W3 W → W.cell? ⟨w1.heap.size + 2, 0, none⟩ = some (.pointer (some ⟨w1.heap.size + 1, 0, none⟩)) ∧ W.cell? ⟨w2.heap.size, 4, none⟩ = some (.slice ga2 pp.pages.length gc2)) := Lib.hid fun W hf => HMV.out [] W hf (by simp)
              have cdA := hd3.cellSome s12 (by simp)
              have cdB := (Fr.alloc1 W3 (.cells #[.int .i64 m] 3)).drew.cellSome s12 (by simp)
              have cdC := (Fr.alloc1 W3 (.cells #[.slice ga2 pp.pages.length gc2] 32)).drew.cellSome s12 (by simp)
              have cdD := ((Fr.alloc1 W3 (.cells #[.int .i64 m] 3)).trans (Fr.alloc1 (W3.alloc (.cells #[.int .i64 m] 3)) (.cells #[.slice ga2 pp.pages.length gc2] 32))).drew.cellSome s12 (by simp)
              have cdE := ((Fr.alloc1 W3 (.cells #[.slice ga2 pp.pages.length gc2] 32)).trans (Fr.alloc1 (W3.alloc (.cells #[.slice ga2 pp.pages.length gc2] 32)) (.cells #[.int .i64 m] 3))).drew.cellSome s12 (by simp)
              have HF00 := Lib.hid (Fr.refl [] W3)
              clear hvs hrl hel hd3 HNO HE hfa HCT p0
              rw [show Op.load 32 (.tmp 54) = ldOp 32 54 from rfl]
              go_region_held3 (fun w' => w'.cell? ⟨w1.heap.size + 2, 0, none⟩ = some (.pointer (some ⟨w1.heap.size + 1, 0, none⟩)) ∧ w'.cell? ⟨w2.heap.size, 4, none⟩ = some (.slice ga2 pp.pages.length gc2))
                (first
                | with_reducible exact HMW.out _ HF00.out
                | with_reducible exact HMW.out _ HD3.out
                | with_reducible exact HMW.out _ (Fr.alloc1 _ _).drew
                | with_reducible exact HMW.out _ ((Fr.alloc1 _ _).trans (Fr.alloc1 _ _)).drew
                | with_reducible exact HM5.out
                | with_reducible exact HM5b.out
                | with_reducible exact HM6.out
                | with_reducible exact HM7.out _)
                (first
                | (refine step_append_one (W0 := W3) rfl _ _ _ rfl Try.underlying32 Try.info3i rfl rfl HWA.out (by rfl) (by with_reducible first | exact (Fr.alloc1 _ _).drew | exact ((Fr.alloc1 _ _).trans (Fr.alloc1 _ _)).drew) (by first | (refine blk_new'd _ _ ?_; first | rfl | exact (sz_alloc _ _).symm) | (refine blk_new2d _ _ _ ?_; first | rfl | exact (sz_alloc _ _).symm)) (by rfl) (by unfold maxLen; have := HSZ.out; omega) (by have := HSZ.out; omega) (by have := HSZ.out; omega) ?_
                   intro v5 w5 ho5 hx5 hf5 hp5
                   obtain ⟨pa5, pc5, rfl, _⟩ := (Slc.ofOwns (S := []) ho5 (by simp)).form
                   have HO5 := Lib.hid ho5
                   have HX5 := Lib.hid hx5
                   have HF5 := Lib.hid hf5
                   have HP5 := Lib.hid hp5
                   have HM5 := Lib.hid (HMV.out _ w5 hf5 HOA.out)
                   have HM5b := Lib.hid (HMV.out _ (w5.alloc (.cells #[.slice ga2 pp.pages.length gc2] 32)) (hf5.trans (Fr.alloc1 _ _).nil) HOA.out)
                   have HWB5 := Lib.hid (ownsKept HWB.out hf5 (fun g hg hm => HAT.out.ne g (own_toList hm) hg))
                   have HC5 := Lib.hid (hf5.cellSome s12 (fun hm => by have := (HOA.out _ hm).1; simp at this))
                   clear ho5 hx5 hf5 hp5)
                | (refine step_append_one (W0 := w5) rfl _ _ _ rfl Try.underlying92 Try.infoSl rfl rfl HWB5.out (by rfl) (by with_reducible first | exact Fr.refl _ _ | exact Fr.alloc1 _ _) (by first | (refine blk_new' _ _ ?_; first | rfl | exact (sz_alloc _ _).symm) | (refine HX5.out.heap (blk_new'd _ _ ?_) (fun hm => ?_); (first | rfl | exact (sz_alloc _ _).symm); (have h1 := (HOA.out _ hm).2; have h2 := HSZ.out; first | omega | (simp at h1; omega))) | (refine HX5.out.heap (blk_new2d _ _ _ ?_) (fun hm => ?_); (first | rfl | exact (sz_alloc _ _).symm); (have h1 := (HOA.out _ hm).2; have h2 := HSZ.out; first | omega | (simp at h1; omega)))) (by rfl) (by unfold maxLen; have := HSZ.out; omega) (by have := HSZ.out; omega) (by have h1 := HSZ.out; have h2 := HF5.out.size; omega) ?_
                   intro v6 w6 ho6 hx6 hf6 hp6
                   obtain ⟨pa6, pc6, rfl, _⟩ := (Slc.ofOwns (S := []) ho6 (by simp)).form
                   have h56 := (HF5.out.mono (S' := (Value.slice sa ls.length sc).ownBlock.toList ++ (Value.slice la ll.length lc).ownBlock.toList) (fun x hx _ => List.mem_append.2 (.inl hx))).trans (hf6.mono (fun x hx _ => List.mem_append.2 (.inr hx)))
                   have hin6 : ∀ x, x ∈ (Value.slice sa ls.length sc).ownBlock.toList ++ (Value.slice la ll.length lc).ownBlock.toList → w1.heap.size + 3 ≤ x ∧ x < wr.heap.size := fun x hx => (List.mem_append.1 hx).elim (HOA.out x) (HOB.out x)
                   have HO6 := Lib.hid ho6
                   have HF6 := Lib.hid hf6
                   have HP6 := Lib.hid hp6
                   have HM6 := Lib.hid (HMV.out _ w6 h56 hin6)
                   have HM7 : Hid (∀ v, (w6.setCell ⟨w1.heap.size + 1, 12, none⟩ v).cell? ⟨w1.heap.size + 2, 0, none⟩ = some (.pointer (some ⟨w1.heap.size + 1, 0, none⟩)) ∧ (w6.setCell ⟨w1.heap.size + 1, 12, none⟩ v).cell? ⟨w2.heap.size, 4, none⟩ = some (.slice ga2 pp.pages.length gc2)) := Lib.hid fun v => by
                     have hs := Fr.setCell w6 ⟨w1.heap.size + 1, 12, none⟩ v
                     exact ⟨hs.cellSome HM6.out.1 (by simp), hs.cellSome HM6.out.2 (by have := HSZ.out; simp; omega)⟩
                   have HM8 : Hid (∀ v, (w6.setCell ⟨w1.heap.size + 1, 12, none⟩ v).cell? ⟨w2.heap.size, 5, none⟩ = some (.int .i64 pp.next)) := Lib.hid fun v =>
                     (Fr.setCell w6 ⟨w1.heap.size + 1, 12, none⟩ v).cellSome (h56.cellSome q5 (fun hm => by have h7 : w2.heap.size < wr.heap.size := (hin6 _ hm).2; have h8 := HSZ.out; omega)) (by have := HSZ.out; simp; omega)
                   have hb6 := h56.heap (HF3.out.heap HAT.out.bb (by simp)) (fun hm => by have h7 : w1.heap.size + 3 ≤ w1.heap.size + 1 := (hin6 _ hm).1; omega)
                   have c6 := blk_cell hb6 12
                   have f6 := blk_free hb6 12
                   simp only [stN, List.getElem?_toArray, List.getElem?_cons_zero, List.getElem?_cons_succ] at c6
                   clear ho6 hx6 hf6 hp6 h56 hin6 hb6))
              all_goals
                have HFIN := Lib.hid (OpAt.next HAT.out HEL.out.1 HEL.out.2.1 HEL.out.2.2 HF2.out HAL3.out (fun S hS => (HI2.out S hS).pages) HO5.out HF5.out HP5.out HO6.out HF6.out HP6.out)
                have e8 := HM8.out (.slice pa5 (ls.length + 1) pc5)
                clear HO5 HX5 HF5 HP5 HM5 HM5b HWB5 HC5 HO6 HF6 HP6 HM6 HM7 HM8 c6 f6
                go_wp2_with fail
                go_roundw
                case rel =>
                  obtain ⟨f', hf1, hR1⟩ := HIS.out
                  rw [if_neg (by simp only [HK3.out]; have h := HCTE.out; simp only [decide_eq_false_iff_not] at h; simp [h])] at hR1
                  have h1 := HIN.out
                  have h2 : 0 ≤ m ∧ m < (D.n : Int) := by simpa using HPI.out
                  refine ⟨ls ++ [m], ll ++ [pp.pages], .slice pa5 (ls.length + 1) pc5, f', pp.next, rfl, rfl, rfl, HFIN.out, hR1.symm, ?_, nodup_snoc h1.2.1 (by simpa using HCTE.out), ?_, ?_⟩
                  · rw [List.length_append, List.length_singleton]; omega
                  · intro x hx
                    rcases List.mem_append.1 hx with h | h
                    · exact h1.2.2.1 x h
                    · rw [List.mem_singleton.1 h]; exact h2
                  · rw [List.length_append, List.length_append, h1.2.2.2]; rfl
                case measure =>
                  obtain ⟨f', hf1, _⟩ := HIS.out
                  have h1 := HIN.out
                  simp only [lenV]
                  omega
            · have HP : Hid (openD D = (71, none)) := Lib.hid (by
                obtain ⟨f', _, h2⟩ := HIS.out
                exact HNO.out (by rw [h2, if_pos (.inr (.inr (by simpa using HCTE.out)))]))
              go_wp2_with fail
              with_reducible refine HCT.out.mono ?_
              rintro e w4 ⟨rfl, rfl⟩
              go_wp2_with fail
              go_ret2
              rw [HP.out]
              exact ⟨HE.out, .inl ⟨rfl, rfl⟩⟩
          · have b3 : (pp.kind != 3) = true := by simpa using hk3
            have HP : Hid (openD D = (71, none)) := Lib.hid (by
              obtain ⟨f', _, h2⟩ := HIS.out
              exact HNO.out (by rw [h2, if_pos (.inr (.inl hk3))]))
            have HE := Lib.hid (HAT.out.fr.trans HF3.out)
            clear hk3 hct
            go_wp2_with fail
            go_ret2
            rw [HP.out]
            exact ⟨HE.out, .inl ⟨rfl, rfl⟩⟩
        · have HP : Hid (openD D = (71, none)) := Lib.hid (by
            obtain ⟨f', _, h2⟩ := HIS.out
            exact HNO.out (by rw [h2, if_pos (.inl he1)]))
          have b1 : (pe != 0) = true := by simpa using he1
          clear he1
          go_wp2_with fail
          go_ret2
          rw [HP.out]
          exact ⟨hfa.out _, .inl ⟨rfl, rfl⟩⟩
  · have HP : Hid (openD D = (e0, none)) := Lib.hid (by rw [HO.out, if_pos h0])
    have b0 : (e0 != 0) = true := by simpa using h0
    have hfa := Lib.hid (fun o => HF1.out.trans (Fr.alloc1 w1 o))
    clear h0
    unfold pageCells
    dsimp only
    go_wp2_with fail
    go_ret2
    rw [HP.out]
    exact ⟨hfa.out _, .inl ⟨rfl, rfl⟩⟩
end Go.Proofs.Ytgpeoonpoogniaa

