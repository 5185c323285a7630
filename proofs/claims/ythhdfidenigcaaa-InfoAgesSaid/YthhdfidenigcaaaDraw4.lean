/- A region that draws its order: new memory, the whole step, and the region. -/
import Derived.Test.YthhdfidenigcaaaDraw3
set_option linter.unusedVariables false
namespace Go.Proofs.Ythhdfidenigcaaa
open Go Go.RowKit

mutual
theorem SV.kall_mono {f g : Nat → Bool} (h : ∀ k, f k = true → g k = true) : ∀ x : SV, x.kall f = true → x.kall g = true
  | .ptr c o, hf => h _ (by simpa [SV.kall] using hf)
  | .mp c, hf => h _ (by simpa [SV.kall] using hf)
  | .slc c o a b, hf => h _ (by simpa [SV.kall] using hf)
  | .slu c o a u, hf => by
    have hf' : f c = true ∧ f u = true := by simpa [SV.kall] using hf
    simp [SV.kall, h _ hf'.1, h _ hf'.2]
  | .fn q a b, hf => by
    have hf' : SV.kalls f a = true ∧ SV.kalls f b = true := by simpa [SV.kall] using hf
    simp [SV.kall, SV.kalls_mono h a hf'.1, SV.kalls_mono h b hf'.2]
  | .agg l, hf => by
    have hf' : SV.kalls f l = true := by simpa [SV.kall] using hf
    simp [SV.kall, SV.kalls_mono h l hf']
  | .tup l, hf => by
    have hf' : SV.kalls f l = true := by simpa [SV.kall] using hf
    simp [SV.kall, SV.kalls_mono h l hf']
  | .elt c _ _ _, hf => h _ (by simpa [SV.kall] using hf)
  | .slr c _ u _, hf => by
    have hf' : f c = true ∧ f u = true := by simpa [SV.kall] using hf
    simp [SV.kall, h _ hf'.1, h _ hf'.2]
  | .foc _ _ x _, hf => by
    have hf' : SV.kall f x = true := by simpa [SV.kall] using hf
    simp [SV.kall, SV.kall_mono h x hf']
  | .v _, _ | .kb _, _ | .ki _ _, _ | .ix _, _ | .sl _, _ | .rcd _, _ | .rows _, _ => by simp [SV.kall]
theorem SV.kalls_mono {f g : Nat → Bool} (h : ∀ k, f k = true → g k = true) : ∀ l : List SV, SV.kalls f l = true → SV.kalls g l = true
  | [], _ => by simp [SV.kalls]
  | x :: r, hf => by
    have hf' : SV.kall f x = true ∧ SV.kalls f r = true := by simpa [SV.kalls] using hf
    simp [SV.kalls, SV.kall_mono h x hf'.1, SV.kalls_mono h r hf'.2]
end

def Env.with (E : Env) (k b : Nat) : Env := { ad := fun j => if j = k then ⟨b, 0, none⟩ else E.ad j, cp := E.cp }
theorem Env.with_agree (E : Env) (k b : Nat) : Env.agree (fun j => !(Nat.beq j k)) E (E.with k b) := by
  intro j hj
  have : j ≠ k := by intro he; subst he; simp at hj
  simp [Env.with, this]
theorem Env.with_upto (E : Env) {k n : Nat} (h : n ≤ k) (b : Nat) : Env.upto n E (E.with k b) := by
  intro j hj
  have : j ≠ k := by omega
  simp [Env.with, this]

section
variable {P : Program} {c : Ctx} {n : Nat} {ops pre : List Oper} {st0 stN : St} {items : List Item} {w0 : World} {M : Nat → Nat → Prop} {E0 E : Env} {D : Nat → Bool} {i : Nat} {it : Item} {a : Act} {w : World}

theorem bnd_not {x : SV} {m k : Nat} (h : x.bnd m = true) (hk : m ≤ k) : x.kall (fun j => !(Nat.beq j k)) = true := by
  refine SV.kall_mono ?_ x h
  intro j hj
  have hj : j < m := by simpa using hj
  cases hb : Nat.beq j k with
  | false => rfl
  | true => have := Nat.eq_of_beq_eq_true hb; omega

theorem wCell_agree {S : Stat} {x : Item} {κ k j : Nat} {E' : Env} (ha : Env.agree (fun j => !(Nat.beq j κ)) E E') (h : x.keysNot κ = true) : wCell S E' k j x = wCell S E k j x := by
  unfold Item.keysNot at h
  unfold wCell
  split
  · rename_i p k' o y r hact
    rw [hact] at h
    simp only [Deed.kall, Bool.and_eq_true] at h
    rw [SV.cells_agree S ha y h.1.2]
  · rename_i p y r hact
    rw [hact] at h
    simp only [Deed.kall, Bool.and_eq_true] at h
    rw [SV.cells_agree S ha y h.1]
  · rename_i p y len r hact
    rw [hact] at h
    simp only [Deed.kall, Bool.and_eq_true] at h
    rw [SV.cells_agree S ha y h.1]
  · rfl

/-- those that have been name no chunk that is yet to be made -/
theorem Setup.fresh (s : Setup P c n ops pre st0 items stN) (hn : Next ops D i) (hi : items[i]? = some it) {κ : Nat} (hm : it.made = some κ) {j : Nat} {x : Item} (hj : items[j]? = some x) (hd : D j = true) :
    x.keysNot κ = true ∧ x.made ≠ some κ := by
  have hji : j ≠ i := by intro he; subst he; rw [hn.no] at hd; cases hd
  rcases Nat.lt_or_gt_of_ne hji with h | h
  · have ha := s.ahead hj hi h
    simp only [Ythhdfidenigcaaa.ahead, Bool.and_eq_true] at ha
    refine ⟨shuns_not ha.2.2.1 hm, fun hh => ?_⟩
    have := ha.2.1
    unfold sameKey at this
    rw [hh, hm] at this
    simp at this
  · have hl := s.behind hn hj hi h hd
    have ha := s.ahead hi hj h
    simp only [Ythhdfidenigcaaa.ahead, Bool.and_eq_true] at ha
    simp only [Ythhdfidenigcaaa.loose, Bool.and_eq_true] at hl
    refine ⟨shuns_not hl.2.2.2.2 hm, fun hh => ?_⟩
    have := ha.2.1
    unfold sameKey at this
    rw [hh, hm] at this
    simp at this

theorem step_new (s : Setup P c n ops pre st0 items stN) (hn : Next ops D i) (hi : items[i]? = some it) (inv : DInv c n w0 M E0 st0 items D E a w)
    {y : SV} {κ : Nat} (hm : it.made = some κ) (hsz : wSize κ it = some y.size) (hcell : ∀ E j, wCell c.S E κ j it = (y.cells c.S E)[j]?) (hyone : y.one = true) (hyk : y.kall (fun j => !(Nat.beq j κ)) = true)
    (hdn : ∀ d, it.o.dst = some d → d < n ∧ Path.free it.val.1 d = true) {v : Value} (hv1 : PathHolds a it.val.1 → v = it.val.2.den c.S (E.with κ w.heap.size)) (hv2 : ¬ PathHolds a it.val.1 → v = undef) (t : TypeId) :
    DInv c n w0 M E0 st0 items (put1 D i) (E.with κ w.heap.size) (a.put it.o.dst v) (w.alloc (.cells (y.cells c.S E).toArray t)) := by
  have hag := E.with_agree κ w.heap.size
  have hle : st0.next ≤ κ := (allPairs_ok ops st0.next items (masks ops []) 0 s.pair).1 i it hi κ hm
  obtain ⟨hb1, hb2⟩ := St.bnd_ok s.bnd
  have hfr := Fr.alloc w (.cells (y.cells c.S E).toArray t) (fun _ _ => False)
  have hsz0 : ∀ k, k ≠ κ → wSize k it = none := by
    intro k hk
    cases hw : wSize k it with
    | none => rfl
    | some L => have := made_of_size hw; rw [hm] at this; injection this with this; exact absurd this.symm hk
  have hnost : ∀ p k o y r, it.act ≠ some (p, Deed.store k o y, r) := by
    intro p k o y r h
    unfold Item.made at hm
    rw [h] at hm
    simp [Deed.isNew] at hm
  have hcell0 : ∀ E k j, k ≠ κ → wCell c.S E k j it = none := by
    intro E k j hk
    cases hw : wCell c.S E k j it with
    | none => rfl
    | some u =>
      rcases wCell_cases hw with h1 | ⟨p, o, z, r, h1, _⟩
      · rw [hm] at h1; injection h1 with h1; exact absurd h1.symm hk
      · exact absurd h1 (hnost _ _ _ _ _)
  have hsizes : ∀ k, k ≠ κ → lastW (wSize k) (put1 D i) items 0 ((st0.heap.get k).map SV.size) = lastW (wSize k) D items 0 ((st0.heap.get k).map SV.size) := fun k hk => ins_none _ hi hn (hsz0 k hk) _
  have hold : lastW (wSize κ) D items 0 ((st0.heap.get κ).map SV.size) = none := by
    have hg : st0.heap.get κ = none := by
      cases hg : st0.heap.get κ with
      | none => rfl
      | some x => have := (hb2 κ x hg).1; omega
    rw [hg]
    refine lastW_none _ D _ 0 _ fun j x hj hd => ?_
    rw [Nat.zero_add] at hd
    cases hw : wSize κ x with
    | none => rfl
    | some L => exact absurd (made_of_size hw) (s.fresh hn hi hm hj hd).2
  have hnewsize : lastW (wSize κ) (put1 D i) items 0 ((st0.heap.get κ).map SV.size) = some y.size := by
    rw [lastW_insert _ D (put1 D i) items i it hi _ hn.no (by simp [put1]) (fun j hj => by simp [put1, hj]), hsz, ov_some]
    intro _ j x hj hlt hd
    cases hw : wSize κ x with
    | none => rfl
    | some L => exact absurd (made_of_size hw) (s.fresh hn hi hm hj hd).2
  have hbase : ∀ (k j : Nat), ((st0.heap.get k).bind fun x => (x.cells c.S (E.with κ w.heap.size))[j]?) = ((st0.heap.get k).bind fun x => (x.cells c.S E)[j]?) := by
    intro k j
    cases hg : st0.heap.get k with
    | none => rfl
    | some x => simp only [Option.bind_some]; rw [SV.cells_agree c.S hag x (bnd_not (hb2 k x hg).2 hle)]
  have hcells : ∀ (k j : Nat) (a : Option Value), lastW (wCell c.S (E.with κ w.heap.size) k j) D items 0 a = lastW (wCell c.S E k j) D items 0 a := by
    intro k j a
    refine lastW_congr _ _ D D items 0 a fun j' x hj' => ⟨rfl, fun hd => ?_⟩
    rw [Nat.zero_add] at hd
    exact wCell_agree hag (s.fresh hn hi hm hj' hd).1
  have hadk : ∀ k, k ≠ κ → (E.with κ w.heap.size).ad k = E.ad k := fun k hk => by simp [Env.with, hk]
  have hadκ : (E.with κ w.heap.size).ad κ = ⟨w.heap.size, 0, none⟩ := by simp [Env.with]
  have hycells : y.cells c.S (E.with κ w.heap.size) = y.cells c.S E := SV.cells_agree c.S hag y hyk
  refine ⟨inv.up.trans (E.with_upto hle w.heap.size) (Nat.le_refl _), s.slots_step hn hi inv.size ?_ hdn hv1 hv2, ?_, ?_, ?_, inv.fr.trans hfr (fun _ _ _ h => h.elim), by rw [Act.put_size]; exact inv.size, by rw [Act.put_defers']; exact inv.defers⟩
  · intro t p x h
    have hx : x.kall (fun j => !(Nat.beq j κ)) = true := by
      rcases lastW_mem _ D items 0 _ _ h with h0 | ⟨j, z, hj, hd, hz⟩
      · exact bnd_not (slots_all hb1 h0) hle
      · rw [Nat.zero_add] at hd
        have hk := (s.fresh hn hi hm hj hd).1
        unfold wSlot at hz
        cases hdz : isDst z.o.dst t with
        | false => rw [hdz] at hz; cases hz
        | true =>
          rw [hdz] at hz
          simp only [cond_true, Option.some.injEq] at hz
          unfold Item.val at hz
          unfold Item.keysNot at hk
          split at hz
          · rename_i q dd xx hact
            rw [hact] at hk
            simp only [Bool.and_eq_true] at hk
            injection hz with e1 e2
            subst e2
            cases xx with
            | none => rfl
            | some u => exact hk.2
          · injection hz with e1 e2; subst e2; rfl
    rw [SV.den_agree c.S hag x hx]
    exact inv.slots t p x h
  · intro k L h hLp
    by_cases hk : k = κ
    · subst hk
      rw [hnewsize] at h
      injection h with h
      subst h
      rw [hadκ]
      refine ⟨y.cells c.S E, SV.len c.S E y, fun j hj => ?_, At.alloc w _ t (SV.one_cells c.S E y hyone), fun _ _ => Wr.alloc w _ t⟩
      rw [lastW_insert _ D (put1 D i) items i it hi _ hn.no (by simp [put1]) (fun j hj => by simp [put1, hj]), hcell, hycells]
      · obtain ⟨u, hu⟩ : ∃ u, (y.cells c.S E)[j]? = some u := ⟨_, List.getElem?_eq_getElem (by rw [SV.len]; exact hj)⟩
        rw [hu, ov_some]
      · intro _ j' x hj' hlt hd
        have hf := s.fresh hn hi hm hj' hd
        cases hw : wCell c.S (E.with k w.heap.size) k j x with
        | none => rfl
        | some u =>
          exfalso
          rcases wCell_cases hw with h1 | ⟨p, o, z, r, h1, _⟩
          · exact hf.2 h1
          · have hkn := hf.1
            unfold Item.keysNot at hkn
            rw [h1] at hkn
            simp [Deed.kall] at hkn
    · rw [hsizes k hk] at h
      obtain ⟨vs, a1, a2, a3, a4⟩ := inv.mem k L h hLp
      rw [hadk k hk]
      refine ⟨vs, a1, fun j hj => ?_, a3.fr hfr (fun _ _ h => h), fun hnt hr => (a4 hnt hr).fr hfr⟩
      rw [ins_none _ hi hn (hcell0 _ k j hk), hcells, hbase]
      exact a2 j hj
  · intro k k' L L' hne h h' hp hp' hr
    have blk : ∀ q L, q ≠ κ → 0 < L → lastW (wSize q) D items 0 ((st0.heap.get q).map SV.size) = some L → (E.ad q).block ≠ w.heap.size := by
      intro q L hq hL hh
      obtain ⟨vs, _, _, a3, _⟩ := inv.mem q L hh hL
      exact Nat.ne_of_lt a3.lt
    by_cases hk : k = κ
    · have hk' : k' ≠ κ := fun he => hne (hk.trans he.symm)
      rw [hsizes k' hk'] at h'
      rw [hk, hadκ, hadk k' hk']
      exact .inl fun he => blk k' L' hk' hp' h' he.symm
    · rw [hsizes k hk] at h
      by_cases hk' : k' = κ
      · rw [hk', hadκ, hadk k hk]
        exact .inl (blk k L hk hp h)
      · rw [hsizes k' hk'] at h'
        rw [hadk k hk, hadk k' hk']
        exact inv.dis k k' L L' hne h h' hp hp' hr
  · intro k L h hr
    by_cases hk : k = κ
    · rw [hk, hadκ]
      exact .inl inv.fr.size
    · rw [hsizes k hk] at h
      rw [hadk k hk]
      exact inv.own k L h hr

theorem bad_sel {α : Type} {r : α} (h : (Out.bad : Out α).sel = some r) : False := by
  have : (none : Option α) = some r := h
  cases this

theorem step_wp (s : Setup P c n ops pre st0 items stN) (hwin : WinOk c.S c.win E0) (hwb : ∀ n j k z, (n, j, k, z) ∈ c.win → k < st0.next) {Q : Exit → Act → World → Prop}
    (hn : Next ops D i) (hi : items[i]? = some it) (inv : DInv c n w0 M E0 st0 items D E a w) :
    wpOp P ops.toArray Q i (fun a w => ∃ E', DInv c n w0 M E0 st0 items (put1 D i) E' a w) a w := by
  obtain ⟨o, sti, sti1, ho, hito, hkey, htf, hstep⟩ := s.at hi
  subst hito
  have hread : ∀ t ∈ namesOf ops it.o, (slotsL D items 0 st0.slots).get t = sti.slots.get t := fun t ht => s.reads hn hi htf ht
  have hguard : guarded (slotsL D items 0 st0.slots) ops it.o = guarded sti.slots ops it.o := by
    refine guarded_congr ops it.o fun j b d hg hd => hread d ?_
    unfold namesOf
    rw [hg]
    simp [hd]
  have hplan : ∀ p, plan c (slotsL D items 0 st0.slots) p it.o = plan c sti.slots p it.o := fun p => plan_congr c it.o p fun t ht => hread t (by unfold namesOf; exact List.mem_append_left _ ht)
  have hso := inv.slotsOk
  have hwE : WinOk c.S c.win E := hwin.upto inv.up hwb
  unfold wpOp
  have hoi : ops.toArray[i]? = some it.o := by simpa using ho
  rw [hoi]
  simp only
  unfold stepItem at hstep
  rw [← hguard] at hstep
  split at hstep
  · cases hstep
  · rename_i hg
    split at hstep
    · rename_i s' hput
      simp only [Option.some.injEq, Prod.mk.injEq] at hstep
      obtain ⟨hit, _⟩ := hstep
      have hact : it.act = none := by rw [← hit]
      have hval : it.val = ([], .v undef) := by unfold Item.val; rw [hact]
      have hw := (guarded_ok hg hso).2 rfl
      rw [if_neg (by rw [hw]; exact Bool.false_ne_true)]
      refine ⟨E, inv.quiet s hn hi (Fr.refl _ _) (fun k => by simp [wSize, hact, settle]) (fun k j => by simp [wCell, hact, settle]) ?_ (fun _ => by rw [hval]; rfl) (fun _ => rfl)⟩
      intro d hd
      rw [hval]
      unfold putSlot at hput
      rw [hd] at hput
      dsimp only at hput
      cases hb : (Nat.blt d n && (sti.slots.all fun e => Path.free e.2.1 d) && Path.free [] d) with
      | false => rw [hb] at hput; cases hput
      | true =>
        simp only [Bool.and_eq_true] at hb
        exact ⟨by simpa using hb.1.1, rfl⟩
    · cases hstep
  · rename_i p hg
    obtain ⟨hw1, hw2⟩ := (guarded_ok hg hso).1 p rfl
    split at hstep
    · cases hstep
    · rename_i d hd
      rw [← hplan] at hd
      cases hcalm : calm c sti d with
      | false => rw [hcalm] at hstep; cases hstep
      | true =>
        rw [hcalm] at hstep
        simp only [cond_true] at hstep
        split at hstep
        · rename_i cd r hr
          split at hstep
          · rename_i s' hput
            simp only [Option.some.injEq, Prod.mk.injEq] at hstep
            obtain ⟨hit, _⟩ := hstep
            have hcd : okC cd = true := by
              have := s.cnd it (List.mem_of_getElem? hi)
              rw [← hit] at this
              exact this
            replace hr := Out.one_sel hr hcd
            have hact : it.act = some (p, settle c sti d, r.1) := by rw [← hit]
            have hval : it.val = (p, svOf r.1) := by unfold Item.val; rw [hact]
            have hkey' : it.key = sti.next := hkey
            have hdn : ∀ d, it.o.dst = some d → d < n ∧ Path.free it.val.1 d = true := by
              intro d' hd'
              rw [hval]
              unfold putSlot at hput
              rw [hd'] at hput
              dsimp only at hput
              cases hb : (Nat.blt d' n && (sti.slots.all fun e => Path.free e.2.1 d') && Path.free p d') with
              | false => rw [hb] at hput; cases hput
              | true =>
                simp only [Bool.and_eq_true] at hb
                exact ⟨by simpa using hb.1.1, hb.2⟩
            by_cases hp : PathHolds a p
            · rw [if_pos (hw1 hp)]
              refine .inl ?_
              have hdoes := plan_ok s.full hwE hso hp hd
              have hpv : PathHolds a it.val.1 := by rw [hval]; exact hp
              unfold Oper.wp
              cases d with
              | yield x =>
                simp only [perform, Out.sel, Option.some.injEq] at hr
                subst hr
                rw [hdoes w, Oper.upon_value]
                exact ⟨E, inv.quiet s hn hi (Fr.refl _ _) (fun k => by simp [wSize, hact, settle]) (fun k j => by simp [wCell, hact, settle]) hdn (fun _ => by rw [hval]; rfl) (fun hh => absurd hpv hh)⟩
              | test b x =>
                simp only [perform] at hr
                obtain ⟨hb, rfl⟩ := Out.when_sel hr
                rw [hdoes hb w, Oper.upon_value]
                exact ⟨E, inv.quiet s hn hi (Fr.refl _ _) (fun k => by simp [wSize, hact, settle]) (fun k j => by simp [wCell, hact, settle]) hdn (fun _ => by rw [hval]; rfl) (fun hh => absurd hpv hh)⟩
              | load k of m g =>
                simp only [perform] at hr
                split at hr
                · rename_i x hx
                  split at hr
                  · rename_i y hy
                    obtain ⟨cy, y⟩ := y
                    obtain ⟨hcy, rfl⟩ := Out.when_sel hr
                    have hat := step_load s hn hi htf inv hact hx hy hcy
                    obtain ⟨⟨h1, h2, h3, h4⟩, _⟩ := SV.partO_ok c.S E (htf.fo _ _ hx) hy hcy
                    rw [hdoes w y h1 h3 (SV.partO_one hy).2 hat, Oper.upon_value]
                    exact ⟨E, inv.quiet s hn hi (Fr.refl _ _) (fun k => by simp [wSize, hact, settle]) (fun k j => by simp [wCell, hact, settle]) hdn (fun _ => by rw [hval]; rfl) (fun hh => absurd hpv hh)⟩
                  · cases hr
                · cases hr
              | store k of y =>
                simp only [perform] at hr
                cases hq : ((!(isNilP p)) || (c.S.ro k || !y.one)) with
                | true => rw [hq] at hr; cases hr
                | false =>
                  rw [hq] at hr
                  simp only [cond_false] at hr
                  simp only [Bool.or_eq_false_iff, Bool.not_eq_false'] at hq
                  split at hr
                  · rename_i x hx
                    split at hr
                    · rename_i z hz
                      obtain ⟨cz, z⟩ := z
                      obtain ⟨hcz, rfl⟩ := Out.when_sel hr
                      obtain ⟨w', hrun, hinv⟩ := step_store (P := P) s hn hi htf inv hact hx hz hcz hq.2.1 hq.2.2 hdn (fun _ => by rw [hval]; rfl)
                      rw [hdoes w w' hrun, Oper.upon_skip]
                      exact ⟨E, hinv⟩
                    · cases hr
                  · cases hr
              | new y =>
                simp only [perform] at hr
                cases hq : (!(isNilP p)) with
                | true => rw [hq] at hr; cases hr
                | false =>
                  rw [hq] at hr
                  simp only [cond_false] at hr
                  cases hb : (sti.bnd && (y.bnd sti.next && y.one) && !(c.S.ro sti.next)) with
                  | false => rw [hb] at hr; cases hr
                  | true =>
                    rw [hb] at hr
                    simp only [cond_true, Out.sel, Option.some.injEq] at hr
                    subst hr
                    simp only [Bool.and_eq_true] at hb
                    obtain ⟨t, ht⟩ := hdoes w
                    rw [ht, Oper.upon_value]
                    have hmade : it.made = some sti.next := by unfold Item.made; rw [hact, ← hkey']; rfl
                    refine ⟨_, step_new (y := y) s hn hi inv hmade (by simp [wSize, hact, settle, hkey']) (fun E j => by simp [wCell, hact, settle, hkey']) hb.1.2.2 (bnd_not hb.1.2.1 (Nat.le_refl _)) hdn (fun _ => ?_) (fun hh => absurd hpv hh) t⟩
                    rw [hval]
                    simp [svOf, SV.den, Env.place, Env.with]
              | newSlice y len =>
                simp only [perform] at hr
                cases hq : (!(isNilP p)) with
                | true => rw [hq] at hr; cases hr
                | false =>
                  rw [hq] at hr
                  simp only [cond_false] at hr
                  cases hb : (sti.bnd && (y.bnd sti.next && y.one) && !(c.S.ro sti.next)) with
                  | false => rw [hb] at hr; cases hr
                  | true =>
                    rw [hb] at hr
                    simp only [cond_true, Out.sel, Option.some.injEq] at hr
                    subst hr
                    simp only [Bool.and_eq_true] at hb
                    obtain ⟨t, ht⟩ := hdoes w
                    rw [ht, Oper.upon_value]
                    have hmade : it.made = some sti.next := by unfold Item.made; rw [hact, ← hkey']; rfl
                    refine ⟨_, step_new (y := y) s hn hi inv hmade (by simp [wSize, hact, settle, hkey']) (fun E j => by simp [wCell, hact, settle, hkey']) hb.1.2.2 (bnd_not hb.1.2.1 (Nat.le_refl _)) hdn (fun _ => ?_) (fun hh => absurd hpv hh) t⟩
                    rw [hval]
                    simp [svOf, SV.den, Env.place, Env.with]
              | emp => simp [calm] at hcalm
              | copy b k m z => simp [calm] at hcalm
              | newMap => simp [calm] at hcalm
              | insert k kk m y => simp [calm] at hcalm
              | look k kk q =>
                simp only [perform] at hr
                split at hr
                · rename_i l hl
                  split at hr
                  · rename_i y hy
                    obtain ⟨cdd, y⟩ := y
                    obtain ⟨hcdd, rfl⟩ := Out.when_sel hr
                    have hact' : it.act = some (p, .read 0 [q] [k], some y) := by rw [hact]; rfl
                    have hat := step_read s hn hi htf inv hact' List.mem_cons_self hl (by simp [SV.size])
                    obtain ⟨hoff, es, clk, hb, ht⟩ := At.entries (t := (SV.dens c.S E l).toArray) hat
                    have hden : SV.dens c.S E l = es.toList.map tupM := by
                      have := congrArg Array.toList ht
                      simpa using this
                    rw [hdoes w es clk l cdd y hb hden hy hcdd, Oper.upon_value]
                    exact ⟨E, inv.quiet s hn hi (Fr.refl _ _) (fun k => by simp [wSize, hact']) (fun k j => by simp [wCell, hact']) hdn (fun _ => by rw [hval]; rfl) (fun hh => absurd hpv hh)⟩
                  · cases hr
                · cases hr
              | read f args ks => cases hr
              | call f args =>
                unfold calm at hcalm
                simp only [perform] at hr
                split at hr
                · rename_i y hy
                  obtain ⟨y, ks, cdd⟩ := y
                  obtain ⟨hcdd, rfl⟩ := Out.when_sel hr
                  have hact' : it.act = some (p, .read f args ks, some y) := by rw [hact]; simp only [settle, hy]
                  obtain ⟨hfn, hcall⟩ := s.full.read f args sti.heap sti.next y ks cdd hy hcdd
                  rw [hdoes hfn w, Oper.upon_enter]
                  refine (hcall E w (fun k x hk hx => ⟨fun hxp => step_read s hn hi htf inv hact' hk hx hxp, htf.fo k x hx⟩) hwE).mono ?_
                  rintro e w' ⟨rfl, hfr⟩
                  exact ⟨E, inv.quiet s hn hi hfr (fun k => by simp [wSize, hact']) (fun k j => by simp [wCell, hact']) hdn (fun _ => by rw [hval]; rfl) (fun hh => absurd hpv hh)⟩
                · rename_i hno
                  dsimp only at hcalm
                  rw [hno] at hcalm; cases hcalm
            · rw [if_neg (by rw [hw2 hp]; exact Bool.false_ne_true)]
              have hq : (!(isNilP p)) = true := by
                cases hb : isNilP p with
                | false => rfl
                | true => exact absurd (by rw [isNilP_ok hb]; intro t b hm; cases hm) hp
              rw [hq] at hr
              have hnp : ¬ PathHolds a it.val.1 := by rw [hval]; exact hp
              refine ⟨E, inv.quiet s hn hi (Fr.refl _ _) ?_ ?_ hdn (fun hh => absurd hh hnp) (fun _ => rfl)⟩
              · intro k
                unfold wSize
                rw [hact]
                cases d <;> simp [perform, settle] at hr ⊢
                all_goals first | (exact (bad_sel hr).elim) | (split at hr <;> first | rfl | (exact (bad_sel hr).elim))
              · intro k j
                unfold wCell
                rw [hact]
                cases d <;> simp [perform, settle] at hr ⊢
                all_goals first | (exact (bad_sel hr).elim) | (split at hr <;> first | rfl | (exact (bad_sel hr).elim))
          · cases hstep
        · cases hstep
end
end Go.Proofs.Ythhdfidenigcaaa
