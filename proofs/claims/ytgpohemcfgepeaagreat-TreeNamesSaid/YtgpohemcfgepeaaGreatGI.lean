/- a part. -/
import Derived.Test.YtgpohemcfgepeaaGreatGD
import Derived.Test.YtgpohemcfgepeaaGreatGB
namespace Go.Proofs.YtgpohemcfgepeaaGreat
open Go.RowKit Go.MapKept
structure StD.Live (T : StD) : Prop where
  run : T.Run
  calm : T.dev.calm
  holds : Holds T.dev T.super T.lists T.base
  bare : T.super.bare
theorem superPg_bare (ep root depth count high next : Int) : (superPg ep root depth count high next).bare := ⟨rfl, rfl, rfl, rfl⟩
theorem StD.Live.step {T T' : StD} (h : T.Live) (hs : T.Step T') : T'.Live := by
  refine ⟨hs.run, hs.calm, ?_, by rw [hs.super]; exact h.bare⟩
  rw [hs.super, hs.lists, hs.base]
  exact h.holds.step hs.n (by rw [hs.calm.off, h.calm.off]) (fun j hj => (hs.bytes j hj).1)
theorem StD.Told.live {T T' : StD} {r d c : Int} (h : T.Told r d c T') : T'.Live := ⟨h.run, h.calm, h.holds, by rw [h.super]; exact superPg_bare _ _ _ _ _ _⟩
theorem StD.Live.lists {T : StD} (h : T.Live) : ∀ x ∈ T.lists, ¬ T.base.opn x := fun x hx ho => by
  have h1 := h.holds.lists x hx
  rcases ho.2 with h2 | h2
  · omega
  · exact h1.2.2 h2
theorem StD.Live.hold {T : StD} (h : T.Live) : beI ((T.dev.bytes (1 - (T.super.epoch + 1) % 2)).take 8) < T.super.epoch + 1 := by
  have h1 := dec_ep h.holds.dec (by omega)
  have e : 1 - (T.super.epoch + 1) % 2 = T.super.epoch % 2 := by omega
  rw [e, ← h1]
  omega
theorem StD.Live.commit {T : StD} (h : T.Live) (he : T.super.epoch < 4611686018427387903) (r d c : Int) :
    (((T.commit r d c).1 = 50 ∨ (T.commit r d c).1 = 60) ∧ T.Step (T.commit r d c).2) ∨ ((T.commit r d c).1 = 0 ∧ T.Told r d c (T.commit r d c).2) := by
  rcases h.run.commit h.calm h.lists ⟨by have := h.holds.ep; omega, he⟩ h.hold r d c with ⟨h1, h2⟩ | h1
  · exact .inl ⟨h1.elim (fun h => .inl h.1) (fun h => .inr h.1), h2⟩
  · exact .inr h1
theorem StD.Live.format {n : Nat} (h2 : 2 ≤ n) (h4 : n ≤ 4096) : (formatD (Dv.new n)).1 = 0 ∧ (formatD (Dv.new n)).2.Live ∧ (formatD (Dv.new n)).2.super.epoch = 1 ∧ (formatD (Dv.new n)).2.dev.n = n := by
  have h := format_ok h2 h4
  exact ⟨h.1, h.2.live, by rw [h.2.super]; rfl, by rw [h.2.n]; rfl⟩
structure CallS where
  kind : Int
  n : Int
  m : Int
  count : Int
  p : PageD
def fewB (p : PageD) : Bool := decide (p.pairs.length ≤ 300) && decide (p.keys.length ≤ 300) && decide (p.kids.length ≤ 300) && decide (p.pages.length ≤ 300) && p.pairs.all (fun x => decide (x.1.size ≤ 200) && decide (x.2.size ≤ 200)) && p.keys.all fun x => decide (x.size ≤ 200)
def stepT (T : StD) (c : CallS) : StD :=
  if fewB c.p = true then
    (if c.kind = 1 then (T.lay c.n c.p).2.2 else if c.kind = 2 then (T.drop c.n).2 else if c.kind = 4 then (T.commit c.n c.m c.count).2 else if c.kind = 5 then T.abort else T)
  else T
def doneT (T : StD) (cs : List CallS) : StD := (cs.take 40).foldl stepT T
end Go.Proofs.YtgpohemcfgepeaaGreat

namespace Go.Proofs.YtgpohemcfgepeaaGreat
open Go.RowKit Go.MapKept
end Go.Proofs.YtgpohemcfgepeaaGreat

namespace Go.Proofs.YtgpohemcfgepeaaGreat
open Go.RowKit Go.MapKept
structure StD.clean (T : StD) : Prop where
  cache : ∀ j, ¬ T.base.opn j → T.dev.cache j = none
  slot : (T.dev.bytes (1 - T.super.epoch % 2)).take 8 = (T.dev.bytes (1 - T.super.epoch % 2)).drop 1016
theorem opn_two {b : PoolD} {j : Int} (h : j < 2) : ¬ b.opn j := fun ho => by have := ho.1; omega
theorem StD.clean.step {T T' : StD} (h : T.clean) (hs : T.Step T') : T'.clean := by
  refine ⟨fun j hj => ?_, ?_⟩
  · rw [hs.base] at hj
    rw [(hs.bytes j hj).2]; exact h.cache j hj
  · rw [hs.super, (hs.bytes _ (opn_two (by omega))).1]; exact h.slot
theorem StD.Told.clean {T T' : StD} {r d c : Int} (ht : T.Told r d c T') (hz : (T.dev.bytes (T.super.epoch % 2)).take 8 = (T.dev.bytes (T.super.epoch % 2)).drop 1016) : T'.clean := by
  refine ⟨fun j _ => ht.synced j, ?_⟩
  have e : 1 - T'.super.epoch % 2 = T.super.epoch % 2 := by
    rw [ht.super]
    show 1 - (T.super.epoch + 1) % 2 = _
    omega
  rw [e, ht.slot]; exact hz
theorem StD.Live.whole {T : StD} (h : T.Live) : (T.dev.bytes (T.super.epoch % 2)).take 8 = (T.dev.bytes (T.super.epoch % 2)).drop 1016 := by
  have := dec_epoch h.holds.dec (by omega)
  rw [this.1, this.2]
theorem StD.clean.format {n : Nat} (h2 : 2 ≤ n) (h4 : n ≤ 4096) : (formatD (Dv.new n)).2.clean := (format_ok h2 h4).2.clean (by
  show (zeros).take 8 = zeros.drop 1016
  decide +kernel)
end Go.Proofs.YtgpohemcfgepeaaGreat

namespace Go.Proofs.YtgpohemcfgepeaaGreat
open Go.RowKit Go.MapKept
def Dv.armed (D : Dv) (F : Int) : Dv := { D with fuse := F }
def Dv.dead (D : Dv) : Dv := { D with off := true, fuse := -1 }
def StD.on (T : StD) (D : Dv) : StD := { T with dev := D }
inductive StD.Cut (T : StD) (root depth count : Int) (e : Int) (D : Dv) : Prop where
  | old (he : e ≠ 0) (hn : D.n = T.dev.n) (h : ∀ j, ¬ T.base.opn j → D.cache j = none ∧ D.bytes j = T.dev.bytes j)
  | half (T' : StD) (he : e ≠ 0) (ht : T.Told root depth count T') (hn : D.n = T.dev.n) (h : ∀ j, j ≠ (T.super.epoch + 1) % 2 → D.cache j = none ∧ D.bytes j = T'.dev.bytes j)
      (hc : D.cache ((T.super.epoch + 1) % 2) = some (T'.dev.bytes ((T.super.epoch + 1) % 2))) (hl : (D.last ((T.super.epoch + 1) % 2)).getD zeros = T.dev.bytes ((T.super.epoch + 1) % 2))
  | new (T' : StD) (ht : T.Told root depth count T') (hn : D.n = T.dev.n) (h : ∀ j, D.cache j = none ∧ D.bytes j = T'.dev.bytes j)
end Go.Proofs.YtgpohemcfgepeaaGreat

namespace Go.Proofs.YtgpohemcfgepeaaGreat
open Go.RowKit Go.MapKept
def StD.Finds (T : StD) (root depth count e : Int) (R : Dv) : Prop :=
  ∃ T', openD R = (0, some T') ∧ (∀ ls' ll', chainD R (R.n + 2) [] [] (newestD R).1.next = some (ls', ll') → ll'.flatten.length ≤ 10000) ∧
    T'.super.bare ∧ T'.dev = R ∧ ((T'.super = T.super ∧ e ≠ 0) ∨ ∃ T2, T.Told root depth count T2 ∧ T'.super = T2.super ∧ ∀ j, T'.dev.bytes j = T2.dev.bytes j)
end Go.Proofs.YtgpohemcfgepeaaGreat

namespace Go.Proofs.YtgpohemcfgepeaaGreat
open Go.RowKit Go.MapKept
structure Mine (w wr : World) (sb b ml mc fm : Nat) (T : StD) : Prop where
  sto : StoAt wr sb b ml mc fm T
  fr : Fr [] w wr
  lo : w.heap.size ≤ sb ∧ w.heap.size ≤ fm ∧ w.heap.size ≤ b ∧ w.heap.size ≤ ml ∧ w.heap.size ≤ mc
end Go.Proofs.YtgpohemcfgepeaaGreat
