/- (*Fdb).All: its contract: the entries by rising addresses, in memory of their own. -/
import Derived.Test.YtfncoeoaniclmaaFdbT
import Derived.Test.YtfncoeoaniclmaaRd
set_option linter.unusedVariables false
set_option maxRecDepth 100000
namespace Go.Proofs.Ytfncoeoaniclmaa
open Go Go.RowKit

def allE (l : PL) : List Entry := sortE (l.map toE)
theorem allE_len (l : PL) : (allE l).length = l.length := by unfold allE; rw [sortE_len, List.length_map]
noncomputable def cB (S : Stat) : Ctx := mkCtx S [] [] [(41, spc gSort S)] 20 2
theorem cB_fam : Fam cB := mk_fam (fun _ => []) _ 20 2 (fun S f g h => by cases h) (fun S f g h => by
  rcases List.mem_cons.1 h with h | h
  · injection h with h1 h2; subst h1 h2; exact spc_ok sort_ok S
  · cases h)
theorem Sat.ctx {c c' : Ctx} {n : Nat} {w0 w : World} {M : Nat → Nat → Prop} {E : Env} {st : St} {a : Act} (h : Sat c n w0 M E st a w) (hS : c'.S = c.S) (hw : c'.win = c.win) : Sat c' n w0 M E st a w :=
  ⟨by rw [hS]; exact h.slots, by rw [hS]; exact h.hs, by rw [hS]; exact h.own, h.fr, by rw [hS, hw]; exact h.win, by rw [hw]; exact h.winb, h.size, h.defers⟩

def gAll : CanonFn := fun ro args H m => match args, H with
  | [.ptr 0 0], [(0, .agg [.v (.int .i64 x), .v (.int .i64 y), .mp 1]), (1, .tab (.place .u64 c l))] => bif !(Nat.beq m 2) then .bad else
      .ite (decide (l.length ≤ 67108864)) (.ret (.slr 2 l.length 2 false, (2, .rows (.entry (allE l))) :: fdbH x y c l, 3)) .bad
  | _, _ => .bad

theorem all_body : (fnOf 17).body = some (.seq (.region 0 (regL 17 0).toArray false) (.seq (.region 1 (regL 17 1).toArray false) (.seq (.seq (.region 2 (regL 17 2).toArray false) (.block 0 (.loop (lpOf 17 0))))
  (.seq (.region 6 (regL 17 6).toArray false) (.seq (.region 7 (regL 17 7).toArray false) .ret))))) := by kernel_rfl
theorem all_q0 (S : Stat) (x y : Int) (ck : Nat) (l : PL) : region (cB (S.rd 0 2)) 28 (regL 17 0) (regL 17 0) ⟨argSlots [.ptr 0 0] 0, fdbH x y ck l, 2⟩ = .ret ⟨[(2, [], .v (.slice none 0 0)), (0, [], .ptr 0 0)], fdbH x y ck l, 2⟩ := by kernel_rfl
theorem all_q1 (S : Stat) (x y : Int) (ck : Nat) (l : PL) : region (cB (S.rd 0 2)) 28 (regL 17 1) (regL 17 1) ⟨[(2, [], .v (.slice none 0 0)), (0, [], .ptr 0 0)], fdbH x y ck l, 2⟩ =
  .ret ⟨[(3, [], .v (.slice none 0 0)), (2, [], .v (.slice none 0 0)), (0, [], .ptr 0 0)], fdbH x y ck l, 2⟩ := by kernel_rfl
theorem all_q2 (S : Stat) (x y : Int) (ck : Nat) (l : PL) : region (cB (S.rd 0 2)) 28 (regL 17 2) ((regL 17 2).take 4) ⟨[(3, [], .v (.slice none 0 0)), (2, [], .v (.slice none 0 0)), (0, [], .ptr 0 0)], fdbH x y ck l, 2⟩ =
  .ret ⟨[(9, [], .mp 1), (8, [], .ptr 0 2), (7, [], .ptr 0 0), (6, [], .ptr 0 0), (3, [], .v (.slice none 0 0)), (2, [], .v (.slice none 0 0)), (0, [], .ptr 0 0)], fdbH x y ck l, 2⟩ := by kernel_rfl
theorem all_r2 : regL 17 2 = (regL 17 2).take 4 ++ [opAt 17 2 4] := by kernel_rfl
theorem all_range : (opAt 17 2 4).op = .range 93 (.tmp 9) ∧ (opAt 17 2 4).dst = some 10 ∧ (opAt 17 2 4).guard = none := ⟨by kernel_rfl, by kernel_rfl, by kernel_rfl⟩
theorem all_q6 (S : Stat) (x y : Int) (ck : Nat) (l : PL) (L : List Entry) (n : Nat) : exec (cB (S.rd 0 2)) 28 20 (.seq (.region 6 (regL 17 6).toArray false) (.seq (.region 7 (regL 17 7).toArray false) .ret)) ⟨[(3, [], .slr 2 n 2 false)], (2, .rows (.entry L)) :: fdbH x y ck l, 3⟩ =
    .ite (decide (n = L.length ∧ L.length ≤ 67108864) && decide ((L.map (·.mac)).Nodup)) (.ret (.ret, ⟨[(2, [], .slr 2 n 2 false), (27, [], .slr 2 n 2 false), (26, [], .tup []), (25, [], .slr 2 n 2 false), (3, [], .slr 2 n 2 false)], (2, .rows (.entry (sortE L))) :: fdbH x y ck l, 3⟩)) .bad := by kernel_rfl

theorem all_ok : CanonOk 17 gAll := by
  intro S args H m v H' m' hr
  unfold gAll at hr
  split at hr <;> (try cases hr)
  rename_i x y ck l
  cases hm : !(Nat.beq m 2) with
  | true => rw [hm] at hr; cases hr
  | false =>
    rw [hm] at hr
    simp only [cond_false] at hr
    obtain ⟨hc, hr⟩ := Out.ite_bad hr
    simp only [Out.sel, Option.some.injEq, Prod.mk.injEq] at hr
    obtain ⟨rfl, rfl, rfl⟩ := hr
    have := Nat.eq_of_beq_eq_true (by simpa using hm : Nat.beq m 2 = true); subst this
    have hlen : l.length ≤ 67108864 := by simpa using hc
    refine ⟨⟨_, Try.func17, by kernel_rfl, by kernel_rfl⟩, fun E w hs0 => ?_⟩
    have hfull := cB_fam.full (S.rd 0 2)
    have hS : (cB (S.rd 0 2)).S = S.rd 0 2 := cB_fam.S _
    have hwin : (cB (S.rd 0 2)).win = [] := cB_fam.win _
    have hnil : ∀ a, PathHolds a [] := fun a _ _ hm => by cases hm
    have hro : ∀ k z, Heap.get (fdbH x y ck l) k = some z → (S.rd 0 2).ro k = true := by
      intro k z hk
      match k, hk with
      | 0, _ => rfl
      | 1, _ => rfl
      | k + 2, hk => cases hk
    have hre : ReHeap (fdbH x y ck l) S (S.rd 0 2) E (fdbH x y ck l) := ⟨⟨_, rfl, by simp [SV.cells, SV.cellss], trivial⟩, ⟨_, rfl, by simp [SV.cells], trivial⟩, trivial⟩
    have hs : HS (cB (S.rd 0 2)).S E (fdbH x y ck l) w := by
      rw [hS]; exact HS.re hs0 hre fun k z hk hr => by rw [hro k z hk] at hr; cases hr
    have hMH : ∀ b j, ¬ MH (cB (S.rd 0 2)).S E (fdbH x y ck l) b j := by
      rintro b j ⟨k, z, hk, hr, h⟩
      rw [hS, hro k z hk] at hr
      cases hr
    have key := enter_ok (P := Try.prog) (c := cB (S.rd 0 2)) (fnOf_eq Try.func17) hfull hwin all_body (args := [.ptr 0 0]) (H := fdbH x y ck l) (H' := (2, .rows (.entry (allE l))) :: fdbH x y ck l) (nx := 2) (nx' := 3) (v := .slr 2 l.length 2 false) (by decide) hs ?_
    · have he : SV.dens S E [.ptr 0 0] = SV.dens (cB (S.rd 0 2)).S E [.ptr 0 0] := by simp [SV.dens, SV.den]
      rw [he]
      refine key.mono ?_
      rintro e w' ⟨E', hu, hle, rfl, hs', hfr, hown⟩
      have hfr0 : Fr w w' (fun _ _ => False) := hfr.mono fun b j _ h => (hMH b j h).elim
      have hold : ∀ k z, Heap.get (fdbH x y ck l) k = some z → k < 2 ∧ E'.ad k = E.ad k := by
        intro k z hk
        have : k < 2 := by
          have := hro k z hk
          simpa [Stat.rd] using this
        exact ⟨this, (hu k this).1⟩
      have hflat : flatH ((2, .rows (.entry (allE l))) :: fdbH x y ck l) = true := rfl
      have hsp : ∀ k z, Heap.get ((2, .rows (.entry (allE l))) :: fdbH x y ck l) k = some z → (k = 2 ∧ z = .rows (.entry (allE l))) ∨ Heap.get (fdbH x y ck l) k = some z := by
        intro k z hk
        rw [Heap.get_cons] at hk
        split at hk
        · rename_i he; injection hk with hk; exact .inl ⟨he, hk.symm⟩
        · exact .inr hk
      rw [hS] at hs' hown
      have hcells : ∀ k z, Heap.get ((2, .rows (.entry (allE l))) :: fdbH x y ck l) k = some z → z.cells (S.rd 0 2) E' = z.cells S E' := fun k z hk => SV.flat_cells _ _ _ z (heap_all hflat hk)
      refine ⟨E', hu, hle, by simp [SV.den], ⟨fun k z hk hp => ?_, fun k z hk hp hnt hr => ?_, fun k k' z z' hne hk hk' hp hp' hr => ?_, fun k z hk => SV.flat_fo (heap_all hflat hk)⟩, hfr0.mono fun b j _ h => h.elim, fun k z hk hr => ?_⟩
      · rw [← hcells k z hk]; exact hs'.at_ k z hk hp
      · rcases hsp k z hk with ⟨rfl, rfl⟩ | h
        · exact hs'.wr 2 _ hk hp (by rw [hcells 2 _ hk]; exact hnt) rfl
        · rw [(hold k z h).2]
          have hbnd : z.kall (fun c => Nat.blt c 2) = true := by
            match k, h with
            | 0, h => injection h with h; subst h; rfl
            | 1, h => injection h with h; subst h; rfl
            | k + 2, h => cases h
          exact (hs0.wr k z h hp (by rw [← SV.cells_upto S hu z hbnd]; exact hnt) hr).fr hfr0
      · rcases hsp k z hk with ⟨rfl, rfl⟩ | h
        · exact hs'.dis 2 k' _ z' hne hk hk' hp hp' rfl
        · rcases hsp k' z' hk' with ⟨rfl, rfl⟩ | h'
          · exact (hs'.dis 2 k _ z (Ne.symm hne) hk' hk hp' hp rfl).symm
          · rw [(hold k z h).2, (hold k' z' h').2]
            exact hs0.dis k k' z z' hne h h' hp hp' hr
      · rcases hsp k z hk with ⟨rfl, rfl⟩ | h
        · rcases hown 2 _ hk rfl with h | h
          · exact .inl h
          · exact .inr fun j hj => (hMH _ _ (by rw [hS]; exact h j hj)).elim
        · rw [(hold k z h).2]
          exact .inr fun j hj => ⟨k, z, h, hr, rfl, by omega, by omega⟩
    · intro a sat
      have hn : (fnOf 17).ntmps = 28 := by kernel_rfl
      rw [hn] at sat ⊢
      refine wp_seq (wp_region_lit (Sat.piece' hfull _ _ sat (by erw [all_q0]; rfl) (by kernel_rfl) ?_))
      intro E1 a1 w1 hu1 sat1 _ _
      refine wp_seq (wp_region_lit (Sat.piece' hfull _ _ sat1 (by rw [all_q1]; rfl) (by kernel_rfl) ?_))
      intro E2 a2 w2 hu2 sat2 _ _
      refine wp_seq (wp_seq (wp_region_lit (wpList_eq all_r2 (Sat.piece hfull _ _ _ sat2 (by rw [all_q2]; rfl) (by kernel_rfl) ?_))))
      intro E3 a3 w3 hu3 sat3 _ _
      refine wpList_hand all_range.2.2 ?_
      obtain ⟨es, hbm, hents, hst⟩ := sat3.tab (k := 1) (ck := ck) (l := l) rfl
      have hev : a3.eval (.tmp 9) = .map (some (E3.ad 1).block) := ev_ok sat3.slots (hnil a3) (show ev _ [] (.tmp 9) = some (.mp 1) from rfl)
      obtain ⟨kt, et, hmt⟩ : ∃ kt et, Try.prog.underlying 93 = some (.map kt et) := ⟨_, _, Try.underlying93⟩
      have : (execOp a3.eval (opAt 17 2 4)).run Try.prog w3 = .ok (.value (.pointer (some ⟨w3.heap.size, 0, none⟩))) (w3.alloc (.mapIter (some (E3.ad 1).block) ck #[] ck)) := by simp [execOp, all_range.1, hev, run_range_map (P := Try.prog) w3 93 kt et (E3.ad 1).block es ck hmt hbm]
      unfold Oper.wp
      rw [this, Oper.upon_value, all_range.2.1]
      have sat4 := (sat3.grown (World.grownBy_alloc w3 (.mapIter (some (E3.ad 1).block) ck #[] ck) none) (fun g hg => by cases hg)).trim hwin [0, 3, 9] 2
      have sat4 := sat4.set (d := 10) (x := .v (.pointer (some ⟨w3.heap.size, 0, none⟩))) (s' := (10, [], .v (.pointer (some ⟨w3.heap.size, 0, none⟩))) :: [(0, [], .ptr 0 0), (3, [], .v (.slice none 0 0)), (9, [], .mp 1)]) rfl (v := .pointer (some ⟨w3.heap.size, 0, none⟩)) rfl
      have sat5 := (sat4.trim hwin [0, 3, 10] 2).ctx (c' := cA (S.rd 0 2)) (by rw [hS]; exact cA_fam.S _) (by rw [hwin]; exact cA_fam.win _)
      show wpList _ _ _ [] _ _
      rw [wpList]
      refine wp_block (wp_loop_rounds ((l.filter fun z => !((#[] : Array Nat).contains z.2.1)).length + 1) ?_)
      refine all_loop hlen _ (.slice none 0 0) #[] [] E3 _ _ ⟨sat5, heap_alloc_new _ _, sat3.fr.size, World.ownsRow_nil _ _ _ _, fun g hg => by (cases hg), by simp⟩ (Nat.lt_succ_self _) ?_
      intro v' L E6 a6 w6 hu6 sat6 own6 hid6 hperm hok
      have hL : L.length = l.length := by rw [hperm.length_eq, List.length_map]
      have hmac : (L.map (·.mac)).Nodup := by
        have h1 : (l.map toE).map (·.mac) = l.map (·.1) := by rw [List.map_map]; rfl
        exact ((hperm.map (·.mac)).nodup_iff).2 (by rw [h1]; exact hok.key)
      have hsort : sortE L = allE l := sortE_of_perm hperm hmac
      have hentl : (SV.rows (.entry L)).cells (S.rd 0 2) = fun _ => ents L := rfl
      -- the slice becomes a chunk
      obtain ⟨E7, hu7, sat7, hden⟩ : ∃ E7, Env.upto 2 E6 E7 ∧ Sat (cB (S.rd 0 2)) 28 w (MH (cB (S.rd 0 2)).S E (fdbH x y ck l)) E7 ⟨[(3, [], .slr 2 L.length 2 false)], (2, .rows (.entry L)) :: fdbH x y ck l, 3⟩ a6 w6 ∧ True := by
        have sat6 := sat6.ctx (c' := cB (S.rd 0 2)) (by rw [hS]; exact (cA_fam.S _).symm) (by rw [hwin]; exact (cA_fam.win _).symm)
        have hadopt : ∃ (ad : Addr) (cp : Nat × Bool), (∀ E7 : Env, E7.ad 2 = ad → E7.cp 2 = cp → v' = (SV.slr 2 L.length 2 false).den (S.rd 0 2) E7) ∧ (0 < (SV.rows (.entry L)).size → At w6 ad (ents L) ∧ Wr w6 ad.block ∧ w.heap.size ≤ ad.block ∧ Hid (allV x y ck l v' w3.heap.size) E6 ad.block) := by
          rcases own6.2 with ⟨rfl, hn⟩ | ⟨g, cap, cur, rfl, hge, hgg, hnc, _, hcs, htake⟩
          · refine ⟨default, (0, true), fun E7 _ hcp => ?_, fun hp => ?_⟩
            · rw [hn]
              simp [SV.den, hcp]
            · have : (SV.rows (.entry L)).size = L.length * 3 := rfl
              omega
          · refine ⟨⟨g, 0, none⟩, (cap, false), fun E7 had hcp => ?_, fun hp => ⟨⟨rfl, .inl ⟨cur, 30, (0, 0), hgg, ?_, ?_⟩⟩, ⟨cur, _, hgg⟩, hge, hid6 g rfl⟩⟩
            · simp [SV.den, hcp, Env.place, had]
            · rw [own6.1, hcs]
              show 0 + _ ≤ _
              have := Nat.mul_le_mul_right 3 hnc
              omega
            · intro k u hu
              refine ⟨?_, ?_⟩
              · rw [← htake, List.getElem?_take] at hu
                split at hu
                · simpa using hu
                · cases hu
              · exact SV.one_cells (S.rd 0 2) E6 (.rows (.entry L)) rfl u (List.mem_of_getElem? hu)
        obtain ⟨ad, cp, hv', hat⟩ := hadopt
        obtain ⟨E7, had, hcp, hu7, sat7⟩ := sat6.adopt (y := .rows (.entry L)) rfl rfl trivial ad cp (fun hp => ⟨(hat hp).1, fun _ => (hat hp).2.1, (hat hp).2.2⟩)
        refine ⟨E7, hu7, sat7.re ⟨⟨⟨.v v', rfl, ?_⟩, trivial⟩, ⟨⟨_, rfl, rfl, trivial⟩, ⟨_, rfl, rfl, trivial⟩, ⟨_, rfl, rfl, trivial⟩, trivial⟩, rfl, hwin⟩, trivial⟩
        rw [hS]
        exact hv' E7 had hcp
      show Exit.inBlock 0 _ (.exit 0) a6 w6
      simp only [Exit.inBlock, if_true]
      refine exec_ok hfull (fuel := 20) (draw_ok hfull) _ (LoopsOk.none (cB_fam.loop _) _) w _ _ _ _ _ a6 w6 E7 sat7 (by rw [all_q6]; simp only [Out.sel]; rw [if_pos (by simp only [hmac, Bool.and_eq_true, decide_eq_true_eq]; exact ⟨⟨trivial, by omega⟩, trivial⟩)]) ?_
      intro E8 a8 w8 hu8 _ sat8
      refine ⟨.inr rfl, E8, _, ?_, sat8, ?_, by rw [hsort], by omega⟩
      · exact ((hu1.trans (hu2.trans (hu3.trans (hu6.trans (Env.upto.trans (n := 2) hu7 hu8 (by show 2 ≤ 3; omega)) (Nat.le_refl 2)) (Nat.le_refl 2)) (Nat.le_refl 2)) (Nat.le_refl 2)))
      · rw [← hL]; rfl
end Go.Proofs.Ytfncoeoaniclmaa
