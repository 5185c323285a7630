import Derived.Test.YtjemfkoamfnofaaGreatFor
import Derived.Laws.IdiomRangeMap
import Derived.Laws.AppendOwn
set_option linter.unusedVariables false
namespace Go.Proofs.YtjemfkoamfnofaaGreat
open Go Go.RowKit
section
variable {P : Program}
end
def Hid (st : St) (E : Env) (g : Nat) : Prop := ∀ k x, st.heap.get k = some x → 0 < x.size → (E.ad k).block ≠ g
theorem At.blk {w w' : World} {a : Addr} {vs : List Value} (h : At w a vs) (hb : w'.heap[a.block]? = w.heap[a.block]?) (hs : w.heap.size ≤ w'.heap.size) : At w' a vs := by
 obtain ⟨h1, h2⟩ := h
 refine ⟨h1, ?_⟩
 rcases h2 with h2 | h2 | ⟨h2, h3⟩
 · exact .inl (by rw [hb]; exact h2)
 · exact .inr (.inl (by rw [hb]; exact h2))
 · exact .inr (.inr ⟨h2, by omega⟩)
section
variable {P : Program} {c : Ctx} {n : Nat} {w0 w w' : World} {M : Nat → Nat → Prop} {E E' : Env} {st st' : St} {a a' : Act}
theorem Sat.grown (sat : Sat c n w0 M E st a w) {row : Option Nat} (hg : w.grownBy w' row) (hrow : ∀ g, row = some g → w0.heap.size ≤ g ∧ Hid st E g) : Sat c n w0 M E st a w' := by
 have hblk : ∀ k x, st.heap.get k = some x → 0 < x.size → w'.heap[(E.ad k).block]? = w.heap[(E.ad k).block]? := by
   intro k x hk hp
   refine hg.block _ (sat.hs.at_ k x hk hp).lt fun he => ?_
   exact (hrow _ he.symm).2 k x hk hp rfl
 refine ⟨sat.slots, ⟨fun k x hk hp => (sat.hs.at_ k x hk hp).blk (hblk k x hk hp) hg.size, fun k x hk hp hnt hr => ?_, sat.hs.dis, sat.hs.fo⟩, sat.own, ⟨hg.os.trans sat.fr.os, hg.tape.trans sat.fr.tape, hg.output.trans sat.fr.output, Nat.le_trans sat.fr.size hg.size, fun b o ho => ?_⟩, sat.win, sat.winb, sat.size, sat.defers⟩
 · obtain ⟨cs, t, h⟩ := sat.hs.wr k x hk hp hnt hr
   exact ⟨cs, t, (hblk k x hk hp).trans h⟩
 · have hlt := lt_of_some ho
   have : w'.heap[b]? = w.heap[b]? := hg.block b (Nat.lt_of_lt_of_le hlt sat.fr.size) fun he => by have := (hrow b he.symm).1; omega
   rw [this]
   exact sat.fr.blk b o ho
theorem Sat.local (sat : Sat c n w0 M E st a w) : Sat c n w (MH c.S E st.heap) E st a w :=
 ⟨sat.slots, sat.hs, fun k x hk hr => .inr fun j hj => ⟨k, x, hk, hr, rfl, by omega, by omega⟩, Fr.refl _ _, sat.win, sat.winb, sat.size, sat.defers⟩
theorem Sat.global (sat : Sat c n w0 M E st a w) (sat' : Sat c n w (MH c.S E st.heap) E' st' a' w') : Sat c n w0 M E' st' a' w' := by
 have hM : ∀ b j, b < w0.heap.size → MH c.S E st.heap b j → M b j := by
   rintro b j hb ⟨k, x, hk, hr, rfl, h1, h2⟩
   rcases sat.own k x hk hr with h | h
   · omega
   · have := h (j - (E.ad k).off) (by omega)
     rwa [show (E.ad k).off + (j - (E.ad k).off) = j from by omega] at this
 refine ⟨sat'.slots, sat'.hs, fun k x hk hr => ?_, sat.fr.trans sat'.fr (fun b j hb hm => hM b j hb hm), sat'.win, sat'.winb, sat'.size, sat'.defers⟩
 by_cases hb : w0.heap.size ≤ (E'.ad k).block
 · exact .inl hb
 · rcases sat'.own k x hk hr with h | h
   · have := sat.fr.size; omega
   · exact .inr fun j hj => hM _ _ (by omega) (h j hj)
def roOk (ro : Nat → Bool) (st st' : St) : Bool := st'.heap.all fun e => !(ro e.1) || (Nat.blt e.1 st.next && (match st.heap.get e.1 with | some x => Nat.beq x.size e.2.size | none => false))
theorem Sat.keep (hro : roOk c.S.ro st st' = true) (hu : Env.upto st.next E E') (sat' : Sat c n w (MH c.S E st.heap) E' st' a' w') {g : Nat} (hh : Hid st E g) (hlt : g < w.heap.size) : w'.heap[g]? = w.heap[g]? ∧ Hid st' E' g := by
 have hm : ∀ j, ¬ MH c.S E st.heap g j := by
   rintro j ⟨k, x, hk, hr, he, h1, h2⟩
   exact hh k x hk (by omega) he.symm
 refine ⟨?_, fun k x hk hp he => ?_⟩
 · obtain ⟨o, ho⟩ : ∃ o, w.heap[g]? = some o := ⟨w.heap[g], by simp [hlt]⟩
   rcases sat'.fr.blk g o ho with h | ⟨cs, cs', t, fr, rfl, h, hs, hc⟩ | ⟨h, _⟩
   · rw [h, ho]
   · rw [h, ho]
     have : cs' = cs := Array.ext_getElem? fun j => hc j (hm j)
     rw [this]
   · exact absurd h (hm 0)
 · cases hr : c.S.ro k with
   | true =>
     have := heap_all hro hk
     dsimp only at this
     rw [hr] at this
     simp only [Bool.not_true, Bool.false_or, Bool.and_eq_true] at this
     obtain ⟨h1, h2⟩ := this
     have h1 : k < st.next := by simpa using h1
     split at h2
     · rename_i x0 hx0
       have := Nat.eq_of_beq_eq_true h2
       exact hh k x0 hx0 (by omega) (by rw [← (hu k h1).1]; exact he)
     · cases h2
   | false =>
     rcases sat'.own k x hk hr with h | h
     · omega
     · have := h 0 hp
       rw [he] at this
       exact hm _ this
theorem wpList_hand {ops : Array Oper} {o : Oper} {rest : List Oper} {Q : Exit → Act → World → Prop} (hgd : o.guard = none) (h : o.wp P a w (wpList P ops Q rest) Q) : wpList P ops Q (o :: rest) a w := by
 unfold wpList
 rw [if_pos (by simp [Region.wanted, hgd])]
 exact .inl h
end
section
variable {P : Program} {c : Ctx} {n : Nat} {w0 w w' : World} {M : Nat → Nat → Prop} {E E' : Env} {st st' : St} {a a' : Act}
end
theorem append_own {P : Program} {w : World} (base : Nat) (t ty e : TypeId) (i : TypeInfo) (z : Value) (ht : P.underlying t = some (.slice e)) (hi : P.info? e = some i) (hz : i.zero = some z)
   (hzs : z.cells.size = i.size) (hsz : 0 < i.size) (v : Value) (n : Nat) (xs : List Value) (hown : w.ownsRow base e i.size v n xs)
   (a : Addr) (c : Nat) (news : List Value) (hl : news.length = 1 * i.size) (hnews : ∀ j u, news[j]? = some u → w.cell? (a.add j) = some u) (h1 : ∀ u ∈ news, u.oneCell' = true)
   (h63 : n + 1 ≤ maxLen) (hbytes : (n + 1) * i.bytes ≤ 140737488355328) (hbase : base ≤ w.heap.size) :
   ∃ v' w', (Builtin.append_ #[t, t] ty #[v, .slice (some a) 1 c]).run P w = .ok v' w' ∧ w'.ownsRow base e i.size v' (n + 1) (xs ++ news) ∧ w.grownBy w' v.ownBlock ∧
     (v'.ownBlock = v.ownBlock ∨ v'.ownBlock = some w.heap.size) := by
 obtain ⟨v', w', h2, h3, h4, _⟩ := run_append_own (P := P) w base t ty e i z i.size i.bytes ht hi hz rfl rfl hzs hsz v n xs hown a 1 c news hl hnews h1 h63 hbytes hbase
 refine ⟨v', w', h2, h3, h4, ?_⟩
 have hsmall : n + 1 ≤ 9223372036854775807 := by simp only [maxLen] at h63; omega
 rcases hown.2 with ⟨rfl, rfl⟩ | ⟨g, cap, cur, rfl, hbg, hg, hnc, hcm, hcs, htake⟩
 · have hx : xs = [] := List.eq_nil_of_length_eq_zero (by simpa using hown.1)
   subst hx
   have hr := run_append_nil (P := P) w t ty e i z ht hi hz a 1 c news hl hnews (by omega) (by omega) (by have hb := hbytes; simp only [Nat.zero_add] at hb; omega)
   rw [h2] at hr
   injection hr with hr _
   exact .inr (by rw [hr]; rfl)
 · by_cases hroom : n + 1 ≤ cap
   · have hfit : n * i.size + news.length ≤ cur.size := by rw [hl, hcs, ← Nat.add_mul]; exact Nat.mul_le_mul_right _ hroom
     have hr := run_append_room (P := P) w t ty e i ht hi g n cap cur hg a 1 c news hl hnews h1 hroom hfit
     rw [h2] at hr
     injection hr with hr _
     exact .inl (by rw [hr]; rfl)
   · have holds : ∀ j u, xs[j]? = some u → w.cell? ((⟨g, 0, none⟩ : Addr).add j) = some u := hown.cells (g := g) rfl
     have hr := run_append_grow (P := P) w t ty e i z ht hi hz ⟨g, 0, none⟩ n cap xs hown.1 holds a 1 c news hl hnews (by omega) (by omega) (growslice_fits (by omega) hbytes)
     rw [h2] at hr
     injection hr with hr _
     exact .inr (by rw [hr]; rfl)
end Go.Proofs.YtjemfkoamfnofaaGreat
