/- fordlaw07.same: are entries the document's? And why what is known is what the document knows. -/
import Derived.Test.YtfncoeoaniclmaaFdbRi
set_option linter.unusedVariables false
set_option maxRecDepth 100000
namespace Go.Proofs.Ytfncoeoaniclmaa
open Go Go.RowKit

noncomputable def cSm (S : Stat) : Ctx := mkCtx S [] (ps0 S) [] 20 3
theorem cSm_fam : Fam cSm := fam_of (ss := fun _ => []) ps0_ok (fun S => specs_nil)
structure SmP where
  n : Nat
  k : Nat
  A : List Entry
  B : List Entry
def SmP.hp (p : SmP) : Heap := [(0, .rows (.entry p.A)), (1, .rows (.entry p.B))]
def smTs : List Nat := [0, 1, 5]
def smSt (p : SmP) (i : SV) : St := ⟨[(0, [], .slr 0 p.n 0 false), (1, [], .slr 1 p.k 1 false), (5, [], i)], p.hp, 2⟩
noncomputable def smR (S : Stat) (p : SmP) (i : Nat) : Out (Ex × St) := trimO [0, 1, 4, 5] 2 (exec (cSm (S.rd i 2)) (fnOf 27).ntmps 20 (lpOf 27 0) (smSt p (.v (.int .i64 i))))
def smIn (p : SmP) (i : Nat) : Bool := (decide (0 ≤ (i : Int)) && decide ((i : Int) < p.n)) && (decide (i < p.A.length) && ((decide (0 ≤ (i : Int)) && decide ((i : Int) < p.k)) && (decide (i < p.B.length) && ((decide (0 ≤ (i : Int)) && decide ((i : Int) < p.n)) && (decide (i < p.A.length) && ((decide (0 ≤ (i : Int)) && decide ((i : Int) < p.k)) && (decide (i < p.B.length) && ((decide (0 ≤ (i : Int)) && decide ((i : Int) < p.n)) && (decide (i < p.A.length) && ((decide (0 ≤ (i : Int)) && decide ((i : Int) < p.k)) && decide (i < p.B.length)))))))))))
def neE (a b : Entry) : Bool := (a.mac != b.mac || a.port != b.port) || a.sec != b.sec
theorem sm_ne (S : Stat) (p : SmP) (i : Nat) : Out.way [true, true, true] (smR S p i) = some ([decide ((i : Int) < p.n), smIn p i, neE (p.A.getD i Entry.dflt) (p.B.getD i Entry.dflt)], (.ret, ⟨(0, [], .slr 0 p.n 0 false) :: (1, [], .slr 1 p.k 1 false) :: (4, [], .kb false) :: [(5, [], .v (.int .i64 i))], p.hp, 2⟩)) := by kernel_rfl
theorem sm_eq (S : Stat) (p : SmP) (i : Nat) : Out.way [true, true, false] (smR S p i) = some ([decide ((i : Int) < p.n), smIn p i, neE (p.A.getD i Entry.dflt) (p.B.getD i Entry.dflt)], (.nrm, smSt p (.v (.int .i64 (IntKind.i64.wrap (i + 1)))))) := by kernel_rfl
theorem sm_over (S : Stat) (p : SmP) (i : Nat) : Out.way [false] (smR S p i) = some ([decide ((i : Int) < p.n)], (.exit 0, smSt p (.v (.int .i64 i)))) := by kernel_rfl
def smNo : St := ⟨[(4, [], .kb false)], [], 2⟩
def smYes : St := ⟨[], [], 2⟩
def gSmL : LoopFn := onTrim 2 smTs fun st => match st.slots, st.heap with
  | [(0, [], .slr 0 n 0 false), (1, [], .slr 1 k 1 false), (5, [], .ki .i64 0)], [(0, .rows (.entry A)), (1, .rows (.entry B))] =>
      some (.ite (decide (A.length = n ∧ B.length = k ∧ n = k ∧ n ≤ 67108864)) (.ite (decide (A = B)) (.ret (.exit 0, smYes)) (.ret (.ret, smNo))) .bad)
  | _, _ => none
theorem neE_iff (a b : Entry) : neE a b = true ↔ a ≠ b := by
  obtain ⟨m, p, s⟩ := a
  obtain ⟨m', p', s'⟩ := b
  unfold neE
  simp only [Bool.or_eq_true, bne_iff_ne, ne_eq, Entry.mk.injEq]
  by_cases h1 : m = m' <;> by_cases h2 : p = p' <;> by_cases h3 : s = s' <;> simp [h1, h2, h3]
theorem zip_any : ∀ (A B : List Entry), A.length = B.length → ((A.zip B).any fun z => neE z.1 z.2) = !(decide (A = B))
  | [], [], _ => by simp
  | [], _ :: _, h => by simp at h
  | _ :: _, [], h => by simp at h
  | a :: A, b :: B, h => by
    rw [List.zip_cons_cons, List.any_cons, zip_any A B (by simpa using h)]
    by_cases hab : a = b
    · have : neE a b = false := by
        cases hq : neE a b with
        | false => rfl
        | true => exact absurd hab ((neE_iff a b).1 hq)
      rw [this]
      simp [hab]
    · have : neE a b = true := (neE_iff a b).2 hab
      rw [this]
      simp [hab]
theorem gSmL_ok (S : Stat) (ls : List (Nat × LoopFn)) : LoopOk Try.prog (withLoops (cSm (S.rd 0 2)) ls) (fnOf 27).ntmps (lpOf 27 0) gSmL := by
  refine loop_trim cSm_fam (nx := 2) (fuel := 20) (ts := [0, 1, 4, 5]) (π := SmP) (α := Entry × Entry) (τ := Unit) (S.rd 0 2) (fun _ i => S.rd i 2) (fun _ _ => rfl) (fun p => p.A.zip p.B) (fun p i _ => smSt p (.v (.int .i64 i)))
    (fun p i _ => p.A.length = p.n ∧ p.B.length = p.k ∧ p.n = p.k ∧ p.n ≤ 67108864) (fun p i z _ => if neE z.1 z.2 = true then Step.out .ret smNo else .go ()) (fun p _ => (.exit 0, smYes)) (fun _ _ _ => rfl) ?_ ?_ ?_
  · intro st o r ho hr
    split at ho
    · rename_i n k A B hsl hhp
      injection ho with ho
      subst ho
      have hh := Out.ite_bad hr
      obtain ⟨rfl, rfl, hnk, hlt⟩ := of_decide_eq_true hh.1
      have hz := zip_any A B hnk
      have hr2 : r = if (A.zip B).any (fun z => neE z.1 z.2) = true then (.ret, smNo) else (.exit 0, smYes) := by
        have h2 := hh.2
        rw [hz]
        by_cases h0 : A = B
        · simp only [h0, decide_true, Out.sel, if_true, Option.some.injEq] at h2
          simp [h0, h2]
        · simp only [h0, decide_false, Out.sel, Bool.false_eq_true, if_false, Option.some.injEq] at h2
          simp [h0, h2]
      refine ⟨⟨A.length, B.length, A, B⟩, (), ⟨rfl, rfl, hnk, hlt⟩, hr2.trans (runL_any (stp := fun i (z : Entry × Entry) _ => if neE z.1 z.2 = true then Step.out .ret smNo else .go ()) (fin := fun _ => (.exit 0, smYes)) (bad := fun z : Entry × Entry => neE z.1 z.2) (fun _ _ => rfl) _ _).symm, by rw [hr2]; split <;> exact Nat.le_refl _, fun E => ⟨?_, ?_⟩⟩
      · rw [hsl]; exact ⟨⟨_, rfl, rfl⟩, ⟨_, rfl, rfl⟩, ⟨_, rfl, rfl⟩, trivial⟩
      · rw [hhp]; exact ⟨⟨_, rfl, rfl, trivial⟩, ⟨_, rfl, rfl, trivial⟩, trivial⟩
    · cases ho
  · intro p i z _ hz hinv
    obtain ⟨h1, h2, h3, h4⟩ := hinv
    obtain ⟨a, b⟩ := z
    obtain ⟨g1, g2⟩ := List.getElem?_zip_eq_some.1 hz
    have hi := (List.getElem?_eq_some_iff.1 g1).1
    have hj := (List.getElem?_eq_some_iff.1 g2).1
    have e1 : p.A.getD i Entry.dflt = a := by simp [List.getD, g1]
    have e2 : p.B.getD i Entry.dflt = b := by simp [List.getD, g2]
    have hii : (i : Int) < p.n := by omega
    have hik : (i : Int) < p.k := by omega
    have hin : smIn p i = true := by
      unfold smIn
      rw [decide_eq_true hii, decide_eq_true hik, decide_eq_true hi, decide_eq_true hj]
      simp
    cases hne : neE a b with
    | true =>
      refine ⟨.ret, _, Out.way_sel (sm_ne S p i) (by rw [e1, e2, hin, decide_eq_true hii, hne]), ?_⟩
      simp only [hne, if_true]
      exact ⟨trivial, by simp, fun E => ⟨⟨⟨_, rfl, rfl⟩, trivial⟩, trivial⟩⟩
    | false =>
      refine ⟨.nrm, _, Out.way_sel (sm_eq S p i) (by rw [e1, e2, hin, decide_eq_true hii, hne]), ?_⟩
      simp only [hne, Bool.false_eq_true, if_false]
      refine ⟨trivial, ⟨h1, h2, h3, h4⟩, fun E => ?_⟩
      rw [wrap_succ (n := 67108865) (by omega) (by omega)]
      exact ⟨⟨⟨_, rfl, rfl⟩, ⟨_, rfl, rfl⟩, ⟨_, rfl, rfl⟩, trivial⟩, ⟨⟨_, rfl, rfl, trivial⟩, ⟨_, rfl, rfl, trivial⟩, trivial⟩⟩
  · intro p _ hinv
    obtain ⟨h1, h2, h3, h4⟩ := hinv
    have hl : (p.A.zip p.B).length = p.n := by rw [List.length_zip]; omega
    rw [hl]
    have hn : ¬ ((p.n : Nat) : Int) < p.n := by omega
    exact ⟨.exit 0, _, Out.way_sel (sm_over S p p.n) (by rw [decide_eq_false hn]), rfl, by simp, fun E => ⟨trivial, trivial⟩⟩
noncomputable def smLs : List (Nat × LoopFn) := [(4, gSmL)]
noncomputable def smO (S : Stat) (p : SmP) : Out SV := valF 2 (inline (withLoops (cSm (S.rd 0 2)) smLs) 20 (fnOf 27) [.slr 0 p.n 0 false, .slr 1 p.k 1 false] p.hp 2)
theorem sm_len (S : Stat) (p : SmP) : Out.way [true] (smO S p) = some ([(p.n : Int) != p.k], .kb false) := by kernel_rfl
def smT (p : SmP) : Bool := decide (p.A.length = p.n ∧ p.B.length = p.k ∧ p.n = p.k ∧ p.n ≤ 67108864)
theorem sm_yes (S : Stat) (p : SmP) : Out.way [false, true, true] (smO S p) = some ([(p.n : Int) != p.k, smT p, decide (p.A = p.B)], .kb true) := by kernel_rfl
theorem sm_no (S : Stat) (p : SmP) : Out.way [false, true, false] (smO S p) = some ([(p.n : Int) != p.k, smT p, decide (p.A = p.B)], .kb false) := by kernel_rfl
def gSame : CanonFn := fun ro args H m => match args, H with
  | [.slr 0 n 0 false, .slr 1 k 1 false], [(0, .rows (.entry A)), (1, .rows (.entry B))] => .ite (decide (A.length = n ∧ B.length = k ∧ n ≤ 67108864)) (.ret (.v (.bool (decide (A = B))), H, m)) .bad
  | _, _ => .bad
theorem same_ok : CanonOk 27 gSame := by
  refine canon_rd cSm_fam Try.func27 (by kernel_rfl) smLs (by kernel_rfl) (by kernel_rfl) 2 (fun S i k g hg => by
    match i, hg with
    | 0, hg => injection hg with hg; injection hg with h1 h2; subst h1 h2; exact gSmL_ok S _
    | i + 1, hg => cases hg) ?_
  intro S args H m r hr
  unfold gSame at hr
  split at hr <;> (try cases hr)
  rename_i n k A B
  obtain ⟨hc, hr⟩ := Out.ite_bad hr
  simp only [Out.sel, Option.some.injEq] at hr
  subst hr
  obtain ⟨rfl, rfl, hlt⟩ := of_decide_eq_true hc
  refine ⟨rfl, rfl, fun E => ?_⟩
  by_cases hnk : A.length = B.length
  · have hb : ((A.length : Int) != (B.length : Int)) = false := by simp [hnk]
    have ht : smT ⟨A.length, B.length, A, B⟩ = true := decide_eq_true ⟨rfl, rfl, hnk, hlt⟩
    by_cases h0 : A = B
    · refine ⟨S, 20, [.slr 0 A.length 0 false, .slr 1 B.length 1 false], _, .kb true, rfl, Out.way_sel (sm_yes S ⟨A.length, B.length, A, B⟩) (by dsimp only; rw [hb, ht, decide_eq_true h0]), by simp [SV.dens, SV.den], ⟨⟨_, rfl, rfl, trivial⟩, ⟨_, rfl, rfl, trivial⟩, trivial⟩, ?_⟩
      simp [SV.den, h0]
    · refine ⟨S, 20, [.slr 0 A.length 0 false, .slr 1 B.length 1 false], _, .kb false, rfl, Out.way_sel (sm_no S ⟨A.length, B.length, A, B⟩) (by dsimp only; rw [hb, ht, decide_eq_false h0]), by simp [SV.dens, SV.den], ⟨⟨_, rfl, rfl, trivial⟩, ⟨_, rfl, rfl, trivial⟩, trivial⟩, ?_⟩
      simp [SV.den, h0]
  · have hb : ((A.length : Int) != (B.length : Int)) = true := by simp; omega
    have h0 : A ≠ B := fun h => hnk (by rw [h])
    refine ⟨S, 20, [.slr 0 A.length 0 false, .slr 1 B.length 1 false], _, .kb false, rfl, Out.way_sel (sm_len S ⟨A.length, B.length, A, B⟩) (by dsimp only; rw [hb]), by simp [SV.dens, SV.den], ⟨⟨_, rfl, rfl, trivial⟩, ⟨_, rfl, rfl, trivial⟩, trivial⟩, ?_⟩
    simp [SV.den, h0]

open Go Go.RowKit

/-! ### numbers -/
theorem adrR_eq {m : Int} (h : 0 ≤ m ∧ m < 18446744073709551616) : adrR m = addrF m := by
  unfold adrR addrF
  obtain ⟨k, rfl⟩ : ∃ k : Nat, m = (k : Int) := ⟨m.toNat, by omega⟩
  have hk : k < 18446744073709551616 := by omega
  have h1 : (BitVec.ofInt IntKind.u64.bits (k : Int) &&& BitVec.ofInt IntKind.u64.bits 281474976710655).toNat = k % 281474976710656 := by
    have e1 : BitVec.ofInt IntKind.u64.bits (k : Int) = BitVec.ofNat 64 k := BitVec.ofInt_natCast 64 k
    have e2 : (BitVec.ofInt IntKind.u64.bits 281474976710655) = 281474976710655#64 := by rfl
    rw [e1, e2]
    show (BitVec.ofNat 64 k &&& 281474976710655#64).toNat = _
    rw [bv48, BitVec.toNat_ofNat, Nat.mod_eq_of_lt hk]
  rw [h1, Int.tmod_eq_emod_of_nonneg (by omega)]
  have hw : IntKind.u64.wrap ((k % 281474976710656 : Nat) : Int) = ((k % 281474976710656 : Nat) : Int) := by
    have := Nat.mod_lt k (show 0 < 281474976710656 by omega)
    unfold IntKind.wrap
    simp only [IntKind.signed, IntKind.bits]
    simp
    omega
  rw [hw]
  omega
theorem adrR_adrR {m : Int} (h : 0 ≤ m ∧ m < 18446744073709551616) : adrR (adrR m) = adrR m := by
  unfold adrR
  rw [Int.tmod_eq_emod_of_nonneg h.1, Int.tmod_eq_emod_of_nonneg (by omega)]
  omega
theorem bv1 (x : BitVec 64) : (x &&& 1#64).toNat = x.toNat % 2 := by
  rw [BitVec.toNat_and]
  exact Nat.and_two_pow_sub_one_eq_mod x.toNat 1
theorem badR_eq {m : Int} (h : 0 ≤ m ∧ m < 18446744073709551616) (P : Int) : badR m P = badF m P := by
  unfold badR badF
  rw [adrR_eq h]
  have hr := addrF_range m
  obtain ⟨k, hk⟩ : ∃ k : Nat, addrF m = (k : Int) := ⟨(addrF m).toNat, by omega⟩
  rw [hk]
  have hk2 : k < 281474976710656 := by omega
  have e1 : manyF (k : Int) = ((k / 1099511627776) % 2 == 1) := by
    unfold manyF
    have hp : (2 : Int) ^ min (Int.toNat 40) IntKind.u64.bits = 1099511627776 := by decide
    rw [hp, Int.fdiv_eq_ediv_of_nonneg _ (by omega)]
    have hq : ((k : Int) / 1099511627776) = ((k / 1099511627776 : Nat) : Int) := by omega
    rw [hq]
    have h1 : (BitVec.ofInt IntKind.u64.bits ((k / 1099511627776 : Nat) : Int) &&& BitVec.ofInt IntKind.u64.bits 1).toNat = (k / 1099511627776) % 2 := by
      have e1 : BitVec.ofInt IntKind.u64.bits ((k / 1099511627776 : Nat) : Int) = BitVec.ofNat 64 (k / 1099511627776) := BitVec.ofInt_natCast 64 _
      have e2 : (BitVec.ofInt IntKind.u64.bits 1) = 1#64 := by rfl
      rw [e1, e2]
      show (BitVec.ofNat 64 (k / 1099511627776) &&& 1#64).toNat = _
      rw [bv1, BitVec.toNat_ofNat]
      omega
    rw [h1]
    have hw : IntKind.u64.wrap (((k / 1099511627776) % 2 : Nat) : Int) = (((k / 1099511627776) % 2 : Nat) : Int) := by
      unfold IntKind.wrap
      simp only [IntKind.signed, IntKind.bits]
      simp
      omega
    rw [hw]
    rcases Nat.mod_two_eq_zero_or_one (k / 1099511627776) with h | h <;> rw [h] <;> rfl
  have e2 : ((IntKind.u64.wrap ((k : Int).tdiv 1099511627776)).tmod 2 == 1) = ((k / 1099511627776) % 2 == 1) := by
    have hd : (k : Int).tdiv 1099511627776 = ((k / 1099511627776 : Nat) : Int) := by
      rw [Int.tdiv_eq_ediv_of_nonneg (by omega)]; omega
    rw [hd]
    have hw : IntKind.u64.wrap ((k / 1099511627776 : Nat) : Int) = ((k / 1099511627776 : Nat) : Int) := by
      unfold IntKind.wrap
      simp only [IntKind.signed, IntKind.bits]
      simp
      omega
    rw [hw, Int.tmod_eq_emod_of_nonneg (by omega)]
    rcases Nat.mod_two_eq_zero_or_one (k / 1099511627776) with h | h
    · have : ((k / 1099511627776 : Nat) : Int) % 2 = 0 := by omega
      rw [this, h]; rfl
    · have : ((k / 1099511627776 : Nat) : Int) % 2 = 1 := by omega
      rw [this, h]; rfl
  rw [e1, e2]

/-! ### lists -/
theorem allE_nodup {l : PL} (h : (l.map (·.1)).Nodup) : ((allE l).map (·.mac)).Nodup := by
  unfold allE
  rw [((sortE_perm _).map _).nodup_iff, List.map_map]
  exact h
theorem allE_sorted (l : PL) : (allE l).Pairwise fun x y => leM x y = true := sortE_sorted _
theorem allE_perm (l : PL) : (allE l).Perm (l.map toE) := sortE_perm _
theorem allE_macs (l : PL) (a : Int) : (∃ e ∈ allE l, e.mac = a) ↔ hasK l a = true := by
  rw [hasK_iff]
  constructor
  · rintro ⟨e, he, rfl⟩
    obtain ⟨z, hz, rfl⟩ := allE_mem.1 he
    exact List.mem_map_of_mem (f := fun z : Int × Nat × Place => z.1) hz
  · intro h
    obtain ⟨z, hz, rfl⟩ := List.mem_map.1 h
    exact ⟨toE z, allE_mem.2 ⟨z, hz, rfl⟩, rfl⟩
/-- a sorted list alone has these elements -/
theorem allE_is {l : PL} {R : List Entry} (hn : (l.map (·.1)).Nodup) (hp : R.Perm (l.map toE)) (hs : R.Pairwise fun x y => leM x y = true) : allE l = R :=
  sorted_one ((allE_perm l).trans hp.symm) (allE_nodup hn) (allE_sorted l) hs
theorem insR_insE {z : Entry} : ∀ {L : List Entry}, (∀ e ∈ L, e.mac ≠ z.mac) → insR z L = insE z L
  | [], _ => rfl
  | e :: r, h => by
    have h0 := h e List.mem_cons_self
    unfold insR insE
    by_cases hgt : e.mac > z.mac
    · rw [if_pos hgt, if_pos (by omega)]
    · rw [if_neg hgt, if_neg (by omega), insR_insE fun x hx => h x (List.mem_cons_of_mem _ hx)]
theorem atI_spec (a : Int) : ∀ (L : List Entry) (i : Nat), (atI a L i < 0 ∧ ∀ e ∈ L, e.mac ≠ a) ∨ ∃ k : Nat, atI a L i = ((i + k : Nat) : Int) ∧ k < L.length ∧ (L.getD k Entry.dflt).mac = a
  | [], i => .inl ⟨by simp [atI], by simp⟩
  | e :: r, i => by
    unfold atI
    by_cases h : e.mac = a
    · rw [if_pos h]
      exact .inr ⟨0, by simp, by simp, by simpa using h⟩
    · rw [if_neg h]
      rcases atI_spec a r (i + 1) with ⟨h1, h2⟩ | ⟨k, h1, h2, h3⟩
      · refine .inl ⟨h1, fun x hx => ?_⟩
        rcases List.mem_cons.1 hx with rfl | hx
        · exact h
        · exact h2 x hx
      · exact .inr ⟨k + 1, by rw [h1]; omega, by simp; omega, by simpa using h3⟩
theorem woutE_at : ∀ (L : List Entry) (i k : Nat), k < L.length → (L.map (·.mac)).Nodup → woutE ((i + k : Nat) : Int) L i = L.filter fun e => !(e.mac == (L.getD k Entry.dflt).mac)
  | [], _, _, h, _ => by simp at h
  | e :: r, i, k, h, hn => by
    simp only [List.map_cons, List.nodup_cons] at hn
    have hne : ∀ x ∈ r, x.mac ≠ e.mac := fun x hx he => hn.1 (by rw [← he]; exact List.mem_map_of_mem (f := fun x : Entry => x.mac) hx)
    cases k with
    | zero =>
      have h0 : ∀ (r : List Entry) (j : Nat), i < j → woutE ((i + 0 : Nat) : Int) r j = r := by
        intro r
        induction r with
        | nil => intro j _; rfl
        | cons x r ih =>
          intro j hj
          unfold woutE
          rw [if_neg (by omega), ih (j + 1) (by omega)]
      unfold woutE
      rw [if_pos (by omega), h0 r (i + 1) (by omega)]
      have : r.filter (fun x => !(x.mac == e.mac)) = r := List.filter_eq_self.2 fun x hx => by simp [hne x hx]
      simp [this]
    | succ k =>
      have hk : k < r.length := by simpa using h
      have ih := woutE_at r (i + 1) k hk hn.2
      have hg : (e :: r).getD (k + 1) Entry.dflt = r.getD k Entry.dflt := by simp
      have hx : (r.getD k Entry.dflt) ∈ r := by
        rw [List.getD, List.getElem?_eq_getElem hk]
        exact List.getElem_mem _
      have hb : (e.mac == (r.getD k Entry.dflt).mac) = false := by
        have := hne _ hx
        cases hq : (e.mac == (r.getD k Entry.dflt).mac) with
        | false => rfl
        | true => exact absurd (beq_iff_eq.1 hq).symm this
      unfold woutE
      rw [if_neg (by omega), hg, List.filter_cons, hb, show i + (k + 1) = i + 1 + k from by omega, ih]
      rfl
theorem filter_none {L : List Entry} {a : Int} (h : ∀ e ∈ L, e.mac ≠ a) : (L.filter fun e => !(e.mac == a)) = L := List.filter_eq_self.2 fun x hx => by simp [h x hx]
theorem putK_perm {a : Int} {c : Nat} {v : Place} : ∀ {l : PL}, (l.map (·.1)).Nodup → ((putK l a c v).map toE).Perm (⟨a, v.port, v.sec⟩ :: (l.filter fun e => !(e.1 == a)).map toE)
  | [], _ => List.Perm.refl _
  | e :: r, h => by
    simp only [List.map_cons, List.nodup_cons] at h
    unfold putK
    by_cases he : e.1 = a
    · have hr : r.filter (fun e => !(e.1 == a)) = r := List.filter_eq_self.2 fun x hx => by
        have : x.1 ≠ a := fun hh => h.1 (by rw [he, ← hh]; exact List.mem_map_of_mem (f := fun x : Int × Nat × Place => x.1) hx)
        simp [this]
      simp [he, hr, toE]
    · have ih := putK_perm (a := a) (c := c) (v := v) h.2
      have hb : (e.1 == a) = false := by simp [he]
      simp only [if_neg he, List.map_cons, List.filter_cons, hb, Bool.not_false, if_true]
      exact (ih.cons _).trans (List.Perm.swap _ _ _)
theorem allE_put {l : PL} {a : Int} {c : Nat} {v : Place} (h : (l.map (·.1)).Nodup) : allE (putK l a c v) = insE ⟨a, v.port, v.sec⟩ ((allE l).filter fun e => !(e.mac == a)) := by
  have hn : ((putK l a c v).map (·.1)).Nodup := by
    cases hh : hasK l a with
    | true => rw [putK_keys hh]; exact h
    | false =>
      rw [putK_new hh, List.map_append, List.nodup_append]
      refine ⟨h, by simp, fun x hx y hy => ?_⟩
      simp only [List.map_cons, List.map_nil, List.mem_singleton] at hy
      rintro rfl
      exact hasK_no hh (hy ▸ hx)
  refine allE_is hn ?_ (insE_sorted _ _ ((allE_sorted l).sublist List.filter_sublist))
  refine (insE_perm _ _).trans (List.Perm.trans ?_ (putK_perm h).symm)
  refine List.Perm.cons _ ?_
  have := (allE_perm l).filter fun e => !(e.mac == a)
  rw [List.filter_map] at this
  exact this
theorem allE_del {l : PL} {k : Int} (h : (l.map (·.1)).Nodup) : allE (delK l k) = (allE l).filter fun e => !(e.mac == k) := by
  refine allE_is (h.sublist ((delK_sub l).map _)) ?_ ((allE_sorted l).sublist List.filter_sublist)
  rw [delK_filter h]
  have := (allE_perm l).filter fun e => !(e.mac == k)
  rw [List.filter_map] at this
  exact this
/-- to learn is to learn -/
theorem learn_same {x y : Int} {l : PL} {c : Nat} {m P : Int} (h : TabOk x y l) (hx : 1 ≤ x) (hm : 0 ≤ m ∧ m < 18446744073709551616) (hb : badF m P = false) : learnR x y (allE l) m P = allE (learnL x y c l m P) ∧ (fullR x (allE l).length (allE l) m = false ∨ 1 ≤ (allE l).length) := by
  have hn := allE_nodup h.key
  have ha := adrR_eq hm
  have haa : adrR (adrR m) = addrF m := by rw [adrR_adrR hm, ha]
  have hfull : fullR x (allE l).length (allE l) m = fullF x l m := by
    unfold fullR fullF
    rw [haa, allE_len]
    congr 1
    rcases atI_spec (addrF m) (allE l) 0 with ⟨h1, h2⟩ | ⟨k, h1, h2, h3⟩
    · have : hasK l (addrF m) = false := by
        cases hh : hasK l (addrF m) with
        | false => rfl
        | true =>
          obtain ⟨e, he, hq⟩ := (allE_macs l (addrF m)).2 hh
          exact absurd hq (h2 e he)
      rw [decide_eq_true h1, this]; rfl
    · have : hasK l (addrF m) = true := (allE_macs l (addrF m)).1 ⟨_, by rw [List.getD, List.getElem?_eq_getElem h2]; exact List.getElem_mem _, h3⟩
      have hge : ¬ atI (addrF m) (allE l) 0 < 0 := by omega
      rw [decide_eq_false hge, this]; rfl
  have hpos : fullF x l m = true → 1 ≤ (allE l).length := by
    intro hf
    unfold fullF at hf
    simp only [Bool.and_eq_true, beq_iff_eq] at hf
    rw [allE_len]; omega
  refine ⟨?_, ?_⟩
  · unfold learnR lessR learnL
    rw [hfull, haa, ha, hb]
    simp only [Bool.false_eq_true, if_false]
    by_cases hf : fullF x l m = true
    · rw [if_pos hf, if_pos hf]
      have h1 := hpos hf
      obtain ⟨k1, k2⟩ := minI_ok h1
      have hw := woutE_at (allE l) 0 (minI (allE l)) k1 hn
      rw [k2, Nat.zero_add] at hw
      rw [hw, allE_put (h.key.sublist ((delK_sub l).map _)), allE_del h.key]
      have hno : hasK l (addrF m) = false := by
        unfold fullF at hf
        simp only [Bool.and_eq_true, Bool.not_eq_true'] at hf
        exact hf.1
      have hne : ∀ e ∈ (allE l).filter fun e => !(e.mac == (minE (allE l)).mac), e.mac ≠ addrF m := fun e he hq => by
        have := (allE_macs l (addrF m)).1 ⟨e, (List.mem_filter.1 he).1, hq⟩
        rw [hno] at this; cases this
      rw [filter_none hne]
      exact insR_insE hne
    · rw [if_neg hf, if_neg hf, allE_put h.key]
      rcases atI_spec (addrF m) (allE l) 0 with ⟨h1, h2⟩ | ⟨k, h1, h2, h3⟩
      · rw [if_neg (by omega), filter_none h2]
        exact insR_insE h2
      · rw [if_pos (by rw [h1]; omega), h1]
        have hw := woutE_at (allE l) 0 k h2 hn
        rw [h3] at hw
        rw [hw]
        refine insR_insE fun e he => ?_
        have := (List.mem_filter.1 he).2
        simpa using this
  · rw [hfull]
    cases hf : fullF x l m with
    | false => exact .inl rfl
    | true => exact .inr (hpos hf)
/-- to find is to find -/
theorem getK_mem {a : Int} : ∀ {l : PL} {d : Place}, hasK l a = true → ∃ z ∈ l, z.1 = a ∧ getK l a d = z.2.2
  | [], _, h => by cases h
  | e :: r, d, h => by
    unfold getK
    by_cases he : e.1 = a
    · rw [if_pos he]; exact ⟨e, List.mem_cons_self, he, rfl⟩
    · rw [if_neg he]
      simp only [hasK, if_neg he] at h
      obtain ⟨z, hz, h1, h2⟩ := getK_mem (l := r) (d := d) h
      exact ⟨z, List.mem_cons_of_mem _ hz, h1, h2⟩
theorem mac_inj {L : List Entry} (hn : (L.map (·.mac)).Nodup) {e f : Entry} (he : e ∈ L) (hf : f ∈ L) (h : e.mac = f.mac) : e = f := by
  induction L with
  | nil => cases he
  | cons x r ih =>
    simp only [List.map_cons, List.nodup_cons] at hn
    rcases List.mem_cons.1 he with he1 | he1
    · rcases List.mem_cons.1 hf with hf1 | hf1
      · rw [he1, hf1]
      · exact absurd (by rw [← he1, h]; exact List.mem_map_of_mem (f := fun x : Entry => x.mac) hf1) hn.1
    · rcases List.mem_cons.1 hf with hf1 | hf1
      · exact absurd (by rw [← hf1, ← h]; exact List.mem_map_of_mem (f := fun x : Entry => x.mac) he1) hn.1
      · exact ih hn.2 he1 hf1
theorem find_same {x y : Int} {l : PL} {m : Int} (h : TabOk x y l) (hm : 0 ≤ m ∧ m < 18446744073709551616) : rPort (allE l) (atI (adrR m) (allE l) 0) = portF l m ∧ (!(decide (atI (adrR m) (allE l) 0 < 0))) = hasK l (addrF m) := by
  have hn := allE_nodup h.key
  rw [adrR_eq hm]
  rcases atI_spec (addrF m) (allE l) 0 with ⟨h1, h2⟩ | ⟨k, h1, h2, h3⟩
  · have : hasK l (addrF m) = false := by
      cases hh : hasK l (addrF m) with
      | false => rfl
      | true =>
        obtain ⟨e, he, hq⟩ := (allE_macs l (addrF m)).2 hh
        exact absurd hq (h2 e he)
    unfold rPort portF
    rw [this, if_pos h1, decide_eq_true h1]
    simp
  · have hin : (allE l).getD k Entry.dflt ∈ allE l := by rw [List.getD, List.getElem?_eq_getElem h2]; exact List.getElem_mem _
    have hh : hasK l (addrF m) = true := (allE_macs l (addrF m)).1 ⟨_, hin, h3⟩
    have hge : ¬ atI (addrF m) (allE l) 0 < 0 := by omega
    unfold rPort portF
    rw [hh, if_neg hge, decide_eq_false hge, if_pos rfl, h1]
    refine ⟨?_, rfl⟩
    rw [Nat.zero_add, Int.toNat_natCast]
    obtain ⟨z, hz, z1, z2⟩ := getK_mem (d := (⟨0, 0⟩ : Place)) hh
    rw [z2]
    have hz' : toE z ∈ allE l := allE_mem.2 ⟨z, hz, rfl⟩
    have := mac_inj hn hin hz' (by rw [h3]; exact z1.symm)
    rw [this]; rfl
/-- what changes entries, changes entries -/
theorem upd_same {l : PL} {ch : Place → Place} {f : Entry → Entry} (h : (l.map (·.1)).Nodup) (hf : ∀ z : Int × Nat × Place, f (toE z) = toE (z.1, z.2.1, ch z.2.2)) (hmac : ∀ e, (f e).mac = e.mac) : (allE l).filterMap (liveE f) = allE (l.filterMap (updE ch)) := by
  have hmap : ∀ l : PL, (l.filterMap (updE ch)).map toE = (l.map toE).filterMap (liveE f) := by
    intro l
    induction l with
    | nil => rfl
    | cons z r ih =>
      rw [List.map_cons, List.filterMap_cons, List.filterMap_cons, liveE, hf]
      have hs : (toE (z.1, z.2.1, ch z.2.2)).sec = (ch z.2.2).sec := rfl
      rw [hs]
      unfold updE
      by_cases h0 : (ch z.2.2).sec ≤ 0
      · rw [if_pos h0, if_neg (by omega)]; exact ih
      · rw [if_neg h0, if_pos (by omega), List.map_cons]; exact congrArg _ ih
  have hsub : ∀ l : PL, ((l.filterMap (updE ch)).map (·.1)).Sublist (l.map (·.1)) := by
    intro l
    induction l with
    | nil => exact List.Sublist.slnil
    | cons e r ih =>
      rw [List.filterMap_cons]
      unfold updE
      by_cases h0 : (ch e.2.2).sec ≤ 0
      · rw [if_pos h0]; exact ih.cons _
      · rw [if_neg h0]; exact ih.cons_cons _
  refine (allE_is (h.sublist (hsub l)) ?_ ?_).symm
  · rw [hmap]
    exact (allE_perm l).filterMap _
  · have := allE_sorted l
    rw [List.pairwise_filterMap]
    refine this.imp ?_
    intro a b hab x hx z hz
    unfold liveE at hx hz
    split at hx
    · split at hz
      · injection hx with hx; injection hz with hz
        subst hx hz
        simp only [leM, decide_eq_true_eq] at hab ⊢
        rw [hmac, hmac]; exact hab
      · cases hz
    · cases hx
theorem tick_same {x y : Int} {l : PL} (h : TabOk x y l) : tickR (allE l) = allE (tickL l) := upd_same h.key (fun _ => rfl) (fun _ => rfl)
theorem short_same {x y : Int} {l : PL} (h : TabOk x y l) (P s : Int) : shortR P s (allE l) = allE (shortL P s l) := by
  refine upd_same h.key (fun z => ?_) (fun e => ?_)
  · unfold shE shortP toE
    dsimp only
    by_cases hp : z.2.2.port = P
    · rw [if_pos hp, if_pos hp, hp]
    · rw [if_neg hp, if_neg hp]
  · unfold shE
    split <;> rfl
theorem short_neg {x y : Int} {l : PL} (h : TabOk x y l) (P s : Int) (hs : s < 0) : shortL P s l = shortL P 0 l := by
  unfold shortL
  have hsec : ∀ e ∈ l, 1 ≤ e.2.2.sec := fun e he => (h.sec e he).1
  clear h
  induction l with
  | nil => rfl
  | cons e r ih =>
    have h1 := hsec e List.mem_cons_self
    have ih := ih fun z hz => hsec z (List.mem_cons_of_mem _ hz)
    rw [List.filterMap_cons, List.filterMap_cons, ih]
    have : updE (shortP P s) e = updE (shortP P 0) e := by
      by_cases hp : e.2.2.port = P
      · have h2 : s < e.2.2.sec := by omega
        have h3 : 0 < e.2.2.sec := by omega
        have h4 : s ≤ 0 := by omega
        simp [updE, shortP, hp, h2, h3, h4]
      · simp [updE, shortP, hp]
    rw [this]
theorem cnt_same (l : PL) (P : Int) : shCnt P (allE l) = cntP P l := by
  unfold shCnt cntP
  have := ((allE_perm l).filter fun e => e.port == P).length_eq
  rw [this, List.filter_map, List.length_map]
  rfl
end Go.Proofs.Ytfncoeoaniclmaa
