/- (*Fdb).Clone: what it does, walked with the kit's own words; maps.Clone by the shelf. -/
import Derived.Test.YtfncoeoaniclmaaFdbW
import Derived.Shelf.SlMaps.Clone
import Derived.Tactics
import Derived.Tactics2
import Derived.WalkKit
import Derived.WalkSpells
import Derived.StillTactics
import Derived.Laws.Pointers
import Derived.Deep.RegionHeld3
set_option linter.unusedVariables false
set_option maxRecDepth 100000
namespace Go.Proofs.Ytfncoeoaniclmaa
open Go Go.Proofs Go.RowKit Go.Shelf

def cloneRen : Go.Shelf.Ren := ⟨fun | 5 => 54 | 7 => 65 | n => n, fun | 4 => 4 | 20 => 20 | 23 => 93 | 25 => 28 | 3 => 97 | n => n, fun | n => n⟩
theorem cloneLay : SlLaysW.n5 Try.prog cloneRen where
  mixed := by kernel_rfl
  f5 := ⟨Try.f54.name, by decide, Try.func54.trans (congrArg some (by kernel_rfl))⟩
  f7 := Try.func65.trans (congrArg some (by kernel_rfl))
  t4 := Try.underlying4
  a4 := Try.isAgg4
  z4 := Try.sizeOf4
  v4 := Try.zeroValue4
  t20 := Try.underlying20
  a20 := Try.isAgg20
  z20 := Try.sizeOf20
  v20 := Try.zeroValue20
  t23 := Try.underlying93
  a23 := Try.isAgg93
  z23 := Try.sizeOf93
  v23 := Try.zeroValue93
theorem mapsClone {w : World} {b : Nat} {es : Array MapEntry} {clk : Nat} (hb : w.heap[b]? = some (.map es clk)) : Calls Try.prog 54 #[.map (some b)] w fun e w' => e = .returned (.map (some w.heap.size)) ∧ w' = w.alloc (.map es clk) :=
  AnyW.maps_Clone cloneLay b es clk w hb
set_option maxHeartbeats 2000000 in
theorem clone_run (w : World) (p : Addr) (x y : Int) (m : Nat) (es : Array MapEntry) (clk : Nat) (h0 : w.cell? ⟨p.block, p.off, none⟩ = some (.int .i64 x)) (h1 : w.cell? ⟨p.block, p.off + 1, none⟩ = some (.int .i64 y)) (h2 : w.cell? ⟨p.block, p.off + 2, none⟩ = some (.map (some m))) (hm : w.heap[m]? = some (.map es clk)) :
    Calls Try.prog 28 #[.pointer (some ⟨p.block, p.off, none⟩)] w fun e w' => e = .returned (.pointer (some ⟨w.heap.size + 1, 0, none⟩)) ∧ w' = ((w.drew).alloc (.map es clk)).alloc (.cells #[.int .i64 x, .int .i64 y, .map (some w.heap.size)] 95) := by
  have n0 := World.new_ne w _ h0
  have n1 := World.new_ne w _ h1
  have n2 := World.new_ne w _ h2
  go_enter Try.func28, Try.ntmps28
  go_wp2_with fail
  go_region_held3 (fun w' => w'.cell? ⟨p.block, p.off, none⟩ = some (.int .i64 x) ∧ w'.cell? ⟨p.block, p.off + 1, none⟩ = some (.int .i64 y) ∧ w'.cell? ⟨p.block, p.off + 2, none⟩ = some (.map (some m))) (go_keep)
    (first | (go_at_call 54; refine (mapsClone (b := m) (es := es) (clk := clk) ?_).mono ?_; (first | exact hm | simpa using hm); rintro e w' ⟨rfl, rfl⟩))
  all_goals go_wp2
  all_goals go_ret
  exact ⟨by simp, rfl⟩

/-- another one, like it: its head, and its map, are chunks of their own -/
def gClone : CanonFn := fun ro args H m => match args, H with
  | [.ptr 0 0], [(0, .agg [.v (.int .i64 x), .v (.int .i64 y), .mp 1]), (1, .tab (.place .u64 c l))] => bif !(Nat.beq m 2) then .bad else
      .ret (.ptr 3 0, [(3, .agg [.v (.int .i64 x), .v (.int .i64 y), .mp 2]), (2, .tab (.place .u64 c l)), (0, .agg [.v (.int .i64 x), .v (.int .i64 y), .mp 1]), (1, .tab (.place .u64 c l))], 4)
  | _, _ => .bad
theorem clone_ok : CanonOk 28 gClone := by
  intro S args H m v H' m' hr
  unfold gClone at hr
  split at hr <;> (try cases hr)
  rename_i x y ck l
  cases hm : !(Nat.beq m 2) with
  | true => rw [hm] at hr; cases hr
  | false =>
    rw [hm] at hr
    simp only [cond_false, Out.sel, Option.some.injEq, Prod.mk.injEq] at hr
    obtain ⟨rfl, rfl, rfl⟩ := hr
    have := Nat.eq_of_beq_eq_true (by simpa using hm : Nat.beq m 2 = true); subst this
    refine ⟨⟨_, Try.func28, by kernel_rfl, by kernel_rfl⟩, fun E w hs => ?_⟩
    have a0 := hs.at_ 0 _ rfl (by show 0 < 3; omega)
    have a1 := hs.at_ 1 _ rfl (by show 0 < 1; omega)
    have hsp := a0.1
    obtain ⟨_, es, clk, hb, ht, hst⟩ := At.entries (t := (Tab.place .u64 ck l).all.toArray) a1
    have ht' := ht
    have hc : ∀ j v, [Value.int .i64 x, .int .i64 y, .map (some (E.ad 1).block)][j]? = some v → w.cell? ⟨(E.ad 0).block, (E.ad 0).off + j, none⟩ = some v := by
      intro j v hv
      have hv' : ((SV.agg [.v (.int .i64 x), .v (.int .i64 y), .mp 1]).cells S E)[j]? = some v := by simpa [SV.cells, SV.cellss] using hv
      have h1 : v.oneCell' = true := by
        match j, hv with
        | 0, h => injection h with h; subst h; rfl
        | 1, h => injection h with h; subst h; rfl
        | 2, h => injection h with h; subst h; rfl
        | j + 3, h => simp at h
      have := a0.cell hv' h1
      have hadd : (E.ad 0).add j = ⟨(E.ad 0).block, (E.ad 0).off + j, none⟩ := by
        unfold Addr.add
        split
        · rename_i h0
          subst h0
          cases h : E.ad 0
          rw [h] at hsp
          simp_all
        · rfl
      rw [hadd] at this
      exact this
    have hbm : w.heap[(E.ad 1).block]? = some (.map es clk) := hb
    have run := clone_run w (E.ad 0) x y (E.ad 1).block es clk (hc 0 _ rfl) (hc 1 _ rfl) (hc 2 _ rfl) hbm
    have hargs : (SV.dens S E [.ptr 0 0]).toArray = #[.pointer (some ⟨(E.ad 0).block, (E.ad 0).off, none⟩)] := by simp [SV.dens, SV.den, Env.place]
    rw [hargs]
    refine run.mono ?_
    rintro e w' ⟨rfl, rfl⟩
    have f1 : Fr w (w.drew.alloc (.map es clk)) (fun _ _ => False) := Fr.drewAlloc w _ _
    have f2 := Fr.alloc (w.drew.alloc (.map es clk)) (.cells #[.int .i64 x, .int .i64 y, .map (some w.heap.size)] 95) (fun _ _ => False)
    have fr := f1.trans f2 (fun _ _ _ h => h.elim)
    have hsz : (w.drew.alloc (.map es clk)).heap.size = w.heap.size + 1 := by simp
    generalize hw2 : (w.drew.alloc (.map es clk)).alloc (.cells #[.int .i64 x, .int .i64 y, .map (some w.heap.size)] 95) = w2 at fr
    have l0 := a0.lt
    have l1 := a1.lt
    have hu : Env.upto 2 E { ad := fun k => if k = 2 then ⟨w.heap.size, 0, none⟩ else if k = 3 then ⟨w.heap.size + 1, 0, none⟩ else E.ad k, cp := E.cp } := by
      intro k hk
      have h2 : k ≠ 2 := by omega
      have h3 : k ≠ 3 := by omega
      simp [h2, h3]
    have new3 : At w2 ⟨w.heap.size + 1, 0, none⟩ [.int .i64 x, .int .i64 y, .map (some w.heap.size)] := by
      have := At.alloc (w.drew.alloc (.map es clk)) [.int .i64 x, .int .i64 y, .map (some w.heap.size)] 95 (by intro v hv; simp only [List.mem_cons, List.not_mem_nil, or_false] at hv; rcases hv with rfl | rfl | rfl <;> rfl)
      rw [hsz] at this
      rw [← hw2]
      exact this
    have wr3 : Wr w2 (w.heap.size + 1) := by
      have := Wr.alloc (w.drew.alloc (.map es clk)) #[.int .i64 x, .int .i64 y, .map (some w.heap.size)] 95
      rw [hsz] at this
      rw [← hw2]
      exact this
    have new2 : At w2 ⟨w.heap.size, 0, none⟩ [.tuple (Tab.place .u64 ck l).all.toArray] := by
      refine ⟨rfl, .inr (.inl ⟨rfl, es, clk, ?_, by rw [ht'], hst⟩)⟩
      have h1 : (w.drew.alloc (.map es clk)).heap[w.heap.size]? = some (.map es clk) := heap_alloc_new w.drew _
      rw [← hw2, heap_alloc_old _ _ (by rw [hsz]; exact Nat.lt_succ_self _)]
      exact h1
    have get : ∀ k z, Heap.get [(3, .agg [.v (.int .i64 x), .v (.int .i64 y), .mp 2]), (2, .tab (.place .u64 ck l)), (0, .agg [.v (.int .i64 x), .v (.int .i64 y), .mp 1]), (1, .tab (.place .u64 ck l))] k = some z →
        (k = 3 ∧ z = .agg [.v (.int .i64 x), .v (.int .i64 y), .mp 2]) ∨ (k = 2 ∧ z = .tab (.place .u64 ck l)) ∨ (k = 0 ∧ z = .agg [.v (.int .i64 x), .v (.int .i64 y), .mp 1]) ∨ (k = 1 ∧ z = .tab (.place .u64 ck l)) := by
      intro k z hk
      match k, hk with
      | 0, hk => injection hk with hk; exact .inr (.inr (.inl ⟨rfl, hk.symm⟩))
      | 1, hk => injection hk with hk; exact .inr (.inr (.inr ⟨rfl, hk.symm⟩))
      | 2, hk => injection hk with hk; exact .inr (.inl ⟨rfl, hk.symm⟩)
      | 3, hk => injection hk with hk; exact .inl ⟨rfl, hk.symm⟩
      | k + 4, hk => cases hk
    refine ⟨_, hu, by omega, ?_, ⟨fun k z hk hp => ?_, fun k z hk hp hnt hr => ?_, fun k k' z z' hne hk hk' hp hp' hr => ?_, fun k z hk => ?_⟩, fr.mono fun _ _ _ h => h.elim, fun k z hk hr => ?_⟩
    · simp [SV.den, Env.place]
    · rcases get k z hk with ⟨rfl, rfl⟩ | ⟨rfl, rfl⟩ | ⟨rfl, rfl⟩ | ⟨rfl, rfl⟩
      · simpa [SV.cells, SV.cellss] using new3
      · simpa [SV.cells] using new2
      · have := a0.fr fr (fun _ _ h => h)
        simpa [SV.cells, SV.cellss] using this
      · have := a1.fr fr (fun _ _ h => h)
        simpa [SV.cells] using this
    · rcases get k z hk with ⟨rfl, rfl⟩ | ⟨rfl, rfl⟩ | ⟨rfl, rfl⟩ | ⟨rfl, rfl⟩
      · simpa using wr3
      · exact absurd rfl (hnt _)
      · have := (hs.wr 0 _ rfl hp (by simpa [SV.cells, SV.cellss] using hnt) hr).fr fr
        simpa using this
      · exact absurd rfl (hnt _)
    · rcases get k z hk with ⟨rfl, rfl⟩ | ⟨rfl, rfl⟩ | ⟨rfl, rfl⟩ | ⟨rfl, rfl⟩ <;> rcases get k' z' hk' with ⟨rfl, rfl⟩ | ⟨rfl, rfl⟩ | ⟨rfl, rfl⟩ | ⟨rfl, rfl⟩ <;> first
        | exact absurd rfl hne
        | (refine .inl ?_; simp; done)
        | (refine .inl ?_; simp; omega)
        | (have := hs.dis 0 1 _ _ (by omega) rfl rfl hp hp' hr; simpa using this)
        | (have := hs.dis 1 0 _ _ (by omega) rfl rfl hp hp' hr; simpa using this)
    · rcases get k z hk with ⟨rfl, rfl⟩ | ⟨rfl, rfl⟩ | ⟨rfl, rfl⟩ | ⟨rfl, rfl⟩ <;> trivial
    · rcases get k z hk with ⟨rfl, rfl⟩ | ⟨rfl, rfl⟩ | ⟨rfl, rfl⟩ | ⟨rfl, rfl⟩
      · exact .inl (by simp)
      · exact .inl (by simp)
      · exact .inr fun j hj => ⟨0, _, rfl, hr, by simp, by simp, by simp; omega⟩
      · exact .inr fun j hj => ⟨1, _, rfl, hr, by simp, by simp, by simp; omega⟩
end Go.Proofs.Ytfncoeoaniclmaa
