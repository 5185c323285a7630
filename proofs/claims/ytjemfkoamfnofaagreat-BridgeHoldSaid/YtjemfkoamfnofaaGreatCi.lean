import Derived.Test.YtjemfkoamfnofaaGreatCd
set_option linter.unusedVariables false
set_option maxRecDepth 100000
namespace Go.Proofs.YtjemfkoamfnofaaGreat
section
open Go Go.RowKit
inductive Lt where
 | nil
 | at_ (k : Nat)
def Lt.sv : Lt → Nat → SV
 | .nil, _ => nil3
 | .at_ k, n => .slr k n k false
def Lt.ad (E : Env) : Lt → Addr
 | .nil => default
 | .at_ k => E.ad k
def Lt.cp (E : Env) : Lt → Nat × Bool
 | .nil => (0, true)
 | .at_ k => E.cp k
def Lt.no (d : Nat) : Lt → Nat
 | .nil => d
 | .at_ k => k
def Lt.ok (H : Heap) (fx : Nat) (R : Rows) : Lt → Prop
 | .nil => R.len = 0
 | .at_ k => fx ≤ k ∧ H.get k = some (.rows R)
def brH (F : Heap) (kb kp n2 n3 : Nat) (s : BS) (q : Bool) : Heap := F ++ [(kb, s.b.sv (.slr kp s.ps.length kp q) (.slr n2 s.out.length n2 false) (.slr n3 s.fl.length n3 false)), (kp, .rows (.port s.ps)), (n2, .rows (.sent s.out)), (n3, .rows (.int .i64 s.fl))]
structure BrAt (H F : Heap) (kb kp fx : Nat) (s : BS) (q : Bool) (l2 l3 : Lt) : Prop where
 gF : ∀ k x, (k, x) ∈ F → H.get k = some x
 gb : H.get kb = some (s.b.sv (.slr kp s.ps.length kp q) (l2.sv s.out.length) (l3.sv s.fl.length))
 gp : H.get kp = some (.rows (.port s.ps))
 g2 : l2.ok H fx (.sent s.out)
 g3 : l3.ok H fx (.int .i64 s.fl)
 ne : l2.no 1000000 ≠ l3.no 1000001
structure BrAtG (H F : Heap) (kb kp lo : Nat) (s : BS) (q : Bool) (l2 l3 : Lt) : Prop where
 gF : ∀ k x, (k, x) ∈ F → H.get k = some x
 gb : H.get kb = some (s.b.sv (.slr kp s.ps.length kp q) (l2.sv s.out.length) (l3.sv s.fl.length))
 gp : H.get kp = some (.rows (.port s.ps))
 g2 : l2.ok H lo (.sent s.out)
 g3 : l3.ok H lo (.int .i64 s.fl)
 ne : l2.no 1000000 ≠ l3.no 1000001
 fr : ∀ k, (k = kb ∨ k = kp ∨ ∃ x, (k, x) ∈ F) → k ≠ l2.no 1000000 ∧ k ≠ l3.no 1000001
def FixH (fx : Nat) (F : Heap) : Prop := ∀ k x, (k, x) ∈ F → k < fx ∧ (∀ (S S' : Stat) (E E' : Env), x.cells S E = x.cells S' E') ∧ ∀ S : Stat, x.foOk S
def brE (E0 E : Env) (n2 n3 : Nat) (l2 l3 : Lt) : Env := { ad := fun k => if k = n2 then l2.ad E else if k = n3 then l3.ad E else E0.ad k, cp := fun k => if k = n2 then l2.cp E else if k = n3 then l3.cp E else E0.cp k }
def brR (n2 n3 : Nat) (l2 l3 : Lt) (k : Nat) : Nat := if k = n2 then l2.no 1000000 else if k = n3 then l3.no 1000001 else k
theorem brE_upto (E0 E : Env) {n2 n3 m : Nat} (l2 l3 : Lt) (h2 : m ≤ n2) (h3 : m ≤ n3) : Env.upto m E0 (brE E0 E n2 n3 l2 l3) := by
 intro k hk
 have h4 : k ≠ n2 := by omega
 have h5 : k ≠ n3 := by omega
 simp [brE, h4, h5]
theorem reN_mem {h : Heap} {S S' : Stat} {E E' : Env} {ρ : Nat → Nat} : ∀ {l : Heap}, (∀ k x, (k, x) ∈ l → x.foOk S' ∧ (x.size = 0 ∨ ∃ y, h.get (ρ k) = some y ∧ y.cells S E = x.cells S' E' ∧ E'.ad k = E.ad (ρ k) ∧ S'.ro k = S.ro (ρ k))) → ReHeapN h S E S' E' ρ l
 | [], _ => trivial
 | (k, x) :: r, hh => ⟨hh k x List.mem_cons_self, reN_mem fun k' x' hm => hh k' x' (List.mem_cons_of_mem _ hm)⟩
theorem inj_mem {ρ : Nat → Nat} {l : Heap} (h : ∀ k x k' x', (k, x) ∈ l → (k', x') ∈ l → k ≠ k' → ρ k ≠ ρ k') : injOn ρ l = true := by
 unfold injOn
 rw [List.all_eq_true]
 rintro ⟨k, x⟩ hk
 rw [List.all_eq_true]
 rintro ⟨k', x'⟩ hk'
 by_cases e : k = k'
 · subst e; simp
 · have := h k x k' x' hk hk' e
   have h1 : Nat.beq (ρ k) (ρ k') = false := by cases hb : Nat.beq (ρ k) (ρ k') with | false => rfl | true => exact absurd (Nat.eq_of_beq_eq_true hb) this
   simp [h1]
theorem lt_pos {H : Heap} {fx : Nat} {R : Rows} {l : Lt} (h : l.ok H fx R) {d : Nat} (hd : fx ≤ d) : fx ≤ l.no d := by
 cases l with
 | nil => exact hd
 | at_ k => exact h.1
theorem lt_mono {H : Heap} {fx lo : Nat} {R : Rows} {l : Lt} (hl : lo ≤ fx) (h : l.ok H fx R) : l.ok H lo R := by
 cases l with
 | nil => exact h
 | at_ k => exact ⟨Nat.le_trans hl h.1, h.2⟩
theorem BrAt.g {H F : Heap} {kb kp lo fx : Nat} {s : BS} {q : Bool} {l2 l3 : Lt} (h : BrAt H F kb kp fx s q l2 l3) (hF : FixH fx F) (hk : kb < fx ∧ kp < fx ∧ fx ≤ 1000000) (hlo : lo ≤ fx) : BrAtG H F kb kp lo s q l2 l3 := by
 have q2 := lt_pos h.g2 hk.2.2
 have q3 := lt_pos h.g3 (show fx ≤ 1000001 by omega)
 refine ⟨h.gF, h.gb, h.gp, lt_mono hlo h.g2, lt_mono hlo h.g3, h.ne, fun k e => ?_⟩
 have : k < fx := by
   rcases e with rfl | rfl | ⟨x, e⟩
   · exact hk.1
   · exact hk.2.1
   · exact (hF k x e).1
 omega
theorem re_brG {S S' : Stat} {E0 E : Env} {H F : Heap} {kb kp n2 n3 fx lo : Nat} {s : BS} {q : Bool} {l2 l3 : Lt} (h : BrAtG H F kb kp lo s q l2 l3) (hF : FixH fx F) (hro : S'.ro = S.ro) (hlo : lo ≤ fx) (hr : ∀ k, lo ≤ k → S.ro k = false) (hk : kb < fx ∧ kp < fx ∧ fx ≤ n2 ∧ fx ≤ n3 ∧ n2 ≠ n3 ∧ fx ≤ 1000000) (hu : Env.upto fx E0 E) :
   ReHeapN H S E S' (brE E0 E n2 n3 l2 l3) (brR n2 n3 l2 l3) (brH F kb kp n2 n3 s q) ∧ injOn (brR n2 n3 l2 l3) (brH F kb kp n2 n3 s q) = true := by
 obtain ⟨hkb, hkp, h2, h3, h23, hfx⟩ := hk
 have h32 : n3 ≠ n2 := fun e => h23 e.symm
 have low : ∀ k, k < fx → brR n2 n3 l2 l3 k = k ∧ (brE E0 E n2 n3 l2 l3).ad k = E.ad k ∧ (brE E0 E n2 n3 l2 l3).cp k = E.cp k := by
   intro k hk
   have a : k ≠ n2 := by omega
   have b : k ≠ n3 := by omega
   simp [brR, brE, a, b, hu k hk]
 have r2 : brR n2 n3 l2 l3 n2 = l2.no 1000000 := by simp [brR]
 have r3 : brR n2 n3 l2 l3 n3 = l3.no 1000001 := by simp [brR, h32]
 have mem : ∀ k x, (k, x) ∈ brH F kb kp n2 n3 s q → (k, x) ∈ F ∨ (k = kb ∧ x = s.b.sv (.slr kp s.ps.length kp q) (.slr n2 s.out.length n2 false) (.slr n3 s.fl.length n3 false)) ∨ (k = kp ∧ x = .rows (.port s.ps)) ∨ (k = n2 ∧ x = .rows (.sent s.out)) ∨ (k = n3 ∧ x = .rows (.int .i64 s.fl)) := by
   intro k x hm
   rcases List.mem_append.1 hm with hm | hm
   · exact .inl hm
   · simp only [List.mem_cons, List.not_mem_nil, or_false, Prod.mk.injEq] at hm
     exact .inr hm
 have lists : ∀ (l : Lt) (n : Nat) (R : Rows) (d : Nat), l.ok H lo R → brR n2 n3 l2 l3 n = l.no d → (brE E0 E n2 n3 l2 l3).ad n = l.ad E → fx ≤ n → (SV.rows R).size = 0 ∨ ∃ y, H.get (brR n2 n3 l2 l3 n) = some y ∧ y.cells S E = (SV.rows R).cells S' (brE E0 E n2 n3 l2 l3) ∧ (brE E0 E n2 n3 l2 l3).ad n = E.ad (brR n2 n3 l2 l3 n) ∧ S'.ro n = S.ro (brR n2 n3 l2 l3 n) := by
   intro l n R d hl hρ ha hn
   cases l with
   | nil =>
     refine .inl ?_
     show Nat.mul R.len R.z = 0
     rw [show R.len = 0 from hl]
     exact Nat.zero_mul _
   | at_ k =>
     refine .inr ⟨_, by rw [hρ]; exact hl.2, rfl, by rw [hρ, ha]; rfl, ?_⟩
     rw [hρ, hro, hr n (Nat.le_trans hlo hn)]
     exact (hr k hl.1).symm
 have a2 : (brE E0 E n2 n3 l2 l3).ad n2 = l2.ad E := by simp [brE]
 have a3 : (brE E0 E n2 n3 l2 l3).ad n3 = l3.ad E := by simp [brE, h32]
 have c2 : (brE E0 E n2 n3 l2 l3).cp n2 = l2.cp E := by simp [brE]
 have c3 : (brE E0 E n2 n3 l2 l3).cp n3 = l3.cp E := by simp [brE, h32]
 have cell : ∀ (l : Lt) (n : Nat) (R : Rows) (len : Nat), l.ok H lo R → len = R.len → (brE E0 E n2 n3 l2 l3).ad n = l.ad E → (brE E0 E n2 n3 l2 l3).cp n = l.cp E → (l.sv len).cells S E = (SV.slr n len n false).cells S' (brE E0 E n2 n3 l2 l3) := by
   intro l n R len hl hlen ha hc
   cases l with
   | nil =>
     have : len = 0 := hlen.trans hl
     subst this
     simp [Lt.sv, nil3, SV.cells, hc, Lt.cp]
   | at_ k => simp [Lt.sv, SV.cells, Env.place, ha, hc, Lt.ad, Lt.cp]
 refine ⟨reN_mem fun k x hm => ?_, inj_mem fun k x k' x' hm hm' hne => ?_⟩
 · rcases mem k x hm with hm | ⟨rfl, rfl⟩ | ⟨rfl, rfl⟩ | ⟨rfl, rfl⟩ | ⟨rfl, rfl⟩
   · obtain ⟨h1, hc, hf⟩ := hF k x hm
     obtain ⟨e1, e2, e3⟩ := low k h1
     exact ⟨hf S', .inr ⟨x, by rw [e1]; exact h.gF k x hm, hc _ _ _ _, by rw [e1, e2], by rw [e1, hro]⟩⟩
   · obtain ⟨e1, e2, e3⟩ := low k hkb
     obtain ⟨p1, p2, p3⟩ := low kp hkp
     refine ⟨trivial, .inr ⟨_, by rw [e1]; exact h.gb, ?_, by rw [e1, e2], by rw [e1, hro]⟩⟩
     have hp : (SV.slr kp s.ps.length kp q).cells S E = (SV.slr kp s.ps.length kp q).cells S' (brE E0 E n2 n3 l2 l3) := by simp [SV.cells, Env.place, p2, p3]
     simp only [Bri.sv, SV.cells, SV.cellss]
     have h2c := cell l2 n2 _ s.out.length h.g2 rfl a2 c2
     have h3c := cell l3 n3 _ s.fl.length h.g3 rfl a3 c3
     rw [h2c, h3c]
     simp only [SV.cells] at hp
     rw [hp]
     simp [SV.cells]
   · obtain ⟨e1, e2, e3⟩ := low k hkp
     exact ⟨trivial, .inr ⟨_, by rw [e1]; exact h.gp, rfl, by rw [e1, e2], by rw [e1, hro]⟩⟩
   · exact ⟨trivial, lists l2 k _ 1000000 h.g2 r2 a2 h2⟩
   · exact ⟨trivial, lists l3 k _ 1000001 h.g3 r3 a3 h3⟩
 · have key : ∀ k x, (k, x) ∈ brH F kb kp n2 n3 s q → (k < fx ∧ brR n2 n3 l2 l3 k = k ∧ k ≠ l2.no 1000000 ∧ k ≠ l3.no 1000001) ∨ (k = n2) ∨ (k = n3) := by
     intro k x hm
     rcases mem k x hm with hm | ⟨rfl, _⟩ | ⟨rfl, _⟩ | ⟨rfl, _⟩ | ⟨rfl, _⟩
     · exact .inl ⟨(hF k x hm).1, (low k (hF k x hm).1).1, h.fr k (.inr (.inr ⟨x, hm⟩))⟩
     · exact .inl ⟨hkb, (low k hkb).1, h.fr k (.inl rfl)⟩
     · exact .inl ⟨hkp, (low k hkp).1, h.fr k (.inr (.inl rfl))⟩
     · exact .inr (.inl rfl)
     · exact .inr (.inr rfl)
   have hne23 := h.ne
   rcases key k x hm with ⟨a, b, c, d⟩ | rfl | rfl <;> rcases key k' x' hm' with ⟨a', b', c', d'⟩ | rfl | rfl
   all_goals first | (rw [b, b']; exact hne) | (rw [b, r2]; omega) | (rw [b, r3]; omega) | (rw [b', r2]; omega) | (rw [b', r3]; omega) | (rw [r2, r3]; omega) | (rw [r3, r2]; omega) | exact absurd rfl hne
theorem re_br {S S' : Stat} {E0 E : Env} {H F : Heap} {kb kp n2 n3 fx : Nat} {s : BS} {q : Bool} {l2 l3 : Lt} (h : BrAt H F kb kp fx s q l2 l3) (hF : FixH fx F) (hro : S'.ro = S.ro) (hr : ∀ k, fx ≤ k → S.ro k = false) (hk : kb < fx ∧ kp < fx ∧ fx ≤ n2 ∧ fx ≤ n3 ∧ n2 ≠ n3 ∧ fx ≤ 1000000) (hu : Env.upto fx E0 E) :
   ReHeapN H S E S' (brE E0 E n2 n3 l2 l3) (brR n2 n3 l2 l3) (brH F kb kp n2 n3 s q) ∧ injOn (brR n2 n3 l2 l3) (brH F kb kp n2 n3 s q) = true :=
 re_brG (h.g hF ⟨hk.1, hk.2.1, hk.2.2.2.2.2⟩ (Nat.le_refl fx)) hF hro (Nat.le_refl fx) hr hk hu
end
section
open Go Go.RowKit
noncomputable def ssLv (S : Stat) : List (Nat × SpecFn) := (11, spc (gNew cRightF) S) :: (12, spc gSetups S) :: (17, spc gRun S) :: (19, spc gTick S) :: (18, spc gEnable S) :: (20, spc gHear S) :: (25, spc gCheck S) :: []
theorem ssLv_ok (S : Stat) : ∀ f g, (f, g) ∈ ssLv S → SpecOk S [] f g := specs_cons (spc_ok bnew_ok S) <| specs_cons (spc_ok setups_ok S) <| specs_cons (spc_ok run_ok S) <| specs_cons (spc_ok tick_ok S) <| specs_cons (spc_ok enable_ok S) <| specs_cons (spc_ok hear_ok S) <| specs_cons (spc_ok check_ok S) specs_nil
noncomputable def cLv (S : Stat) : Ctx := mkCtx S [] [] (ssLv S) 60 5
theorem cLv_fam : Fam cLv := mk_fam (fun _ => []) ssLv 60 5 (fun _ _ _ h => by cases h) ssLv_ok
def actK (n : Nat) (a : Todo) : Int := (IntKind.i64.wrap a.port).tmod n
def actF (n : Nat) (s : BS) (a : Todo) : BS :=
 if (a.kind.tmod 4 == 0) = true then tickF s else if (a.kind.tmod 4 == 1) = true then (enableF s (actK n a) a.on).1 else if (a.kind.tmod 4 == 2) = true then (hearF s (actK n a) a.msg).1 else (checkF s (actK n a)).1
def clr (s : BS) : BS := { s with out := [], fl := [] }
def liveL (n : Nat) : List Todo → BS × Bool → BS × Bool
 | [], x => x
 | a :: r, (s, rest) => if rest = true then liveL n r (clr (runF (actF n s a)).1, (runF (actF n s a)).2.2) else (s, rest)
def lvF (L : List Conf) (A : List Todo) (z : Bri) : Heap := [(0, .rows (.conf L)), (1, .rows (.todo A)), (2, z.sv nil3 nil3 nil3)]
def lvSl (L : List Conf) (A : List Todo) (q r rest : Bool) (i : SV) : Slots := [(1, [], .slr 0 L.length 0 q), (2, [], .slr 1 A.length 1 r), (6, [], .ptr 2 0), (8, [], .ptr 7 0), (11, [], .v (.bool rest)), (12, [], i)]
def lvSt (L : List Conf) (A : List Todo) (z : Bri) (s : BS) (q r q4 rest : Bool) (i : SV) : St := ⟨lvSl L A q r rest i, brH (lvF L A z) 7 4 8 9 s q4, 10⟩
def bsT (n : Nat) (s : BS) (C : Bool) (l : Nat) : Bool := decide (n = s.ps.length ∧ s.out.length = s.out.length ∧ s.fl.length = s.fl.length) && (C && decide (l = s.ps.length))
def lvCs (L : List Conf) (A : List Todo) (rest : Bool) (i : Nat) : List Bool := [(decide ((i : Int) < A.length) && rest) && decide ((L.length : Int) > 0), decide (0 ≤ (i : Int)) && decide ((i : Int) < A.length), decide ((i : Int).toNat < (Rows.todo A).len), !((L.length : Int) == 0)]
def lvEnd (L : List Conf) (A : List Todo) (z : Bri) (n : Nat) (s : BS) (q r q4 : Bool) (i : Nat) : Ex × St := (.nrm, ⟨lvSl L A q r (runF s).2.2 (.v (.int .i64 (IntKind.i64.wrap (i + 1)))), lvF L A z ++ [(7, (runF s).1.b.sv (.slr 4 n 4 q4) nil3 nil3), (4, .rows (.port (runF s).1.ps))], 0⟩)
noncomputable def lvT (S : Stat) (L : List Conf) (A : List Todo) (z : Bri) (s : BS) (q r q4 rest : Bool) (i : Nat) : Out (Ex × St) := trimC [1, 2, 6, 8, 11, 12] [0, 1, 2, 7, 4] (exec (cLv (S.rd i 2)) (fnOf 16).ntmps 60 (lpOf 16 0) (lvSt L A z s q r q4 rest (.v (.int .i64 i))))
theorem lv_0 (S : Stat) (L : List Conf) (A : List Todo) (z : Bri) (s : BS) (q r q4 rest : Bool) (i : Nat) (a : Todo) (ha : a = A.getD (i : Int).toNat Todo.dflt) : Out.way [true, true, true, true, true, true, true] (lvT S L A z s q r q4 rest i) =
   some (lvCs L A rest i ++ [a.kind.tmod 4 == 0, bsT s.ps.length s (decide (s.ps.length < 134217728)) (tickF s).ps.length, bsT s.ps.length (tickF s) (roomRun (tickF s)) (runF (tickF s)).1.ps.length], lvEnd L A z s.ps.length (tickF s) q r q4 i) := by
 subst ha; kernel_rfl
theorem lv_1 (S : Stat) (L : List Conf) (A : List Todo) (z : Bri) (s : BS) (q r q4 rest : Bool) (i : Nat) (a : Todo) (ha : a = A.getD (i : Int).toNat Todo.dflt) : Out.way [true, true, true, true, false, true, true, true] (lvT S L A z s q r q4 rest i) =
   some (lvCs L A rest i ++ [a.kind.tmod 4 == 0, a.kind.tmod 4 == 1, bsT s.ps.length s (ixB s (actK L.length a)) (enableF s (actK L.length a) a.on).1.ps.length, bsT s.ps.length (enableF s (actK L.length a) a.on).1 (roomRun (enableF s (actK L.length a) a.on).1) (runF (enableF s (actK L.length a) a.on).1).1.ps.length], lvEnd L A z s.ps.length (enableF s (actK L.length a) a.on).1 q r q4 i) := by
 subst ha; kernel_rfl
theorem lv_2 (S : Stat) (L : List Conf) (A : List Todo) (z : Bri) (s : BS) (q r q4 rest : Bool) (i : Nat) (a : Todo) (ha : a = A.getD (i : Int).toNat Todo.dflt) : Out.way [true, true, true, true, false, false, true, true, true] (lvT S L A z s q r q4 rest i) =
   some (lvCs L A rest i ++ [a.kind.tmod 4 == 0, a.kind.tmod 4 == 1, a.kind.tmod 4 == 2, bsT s.ps.length s (ixB s (actK L.length a)) (hearF s (actK L.length a) a.msg).1.ps.length, bsT s.ps.length (hearF s (actK L.length a) a.msg).1 (roomRun (hearF s (actK L.length a) a.msg).1) (runF (hearF s (actK L.length a) a.msg).1).1.ps.length], lvEnd L A z s.ps.length (hearF s (actK L.length a) a.msg).1 q r q4 i) := by
 subst ha; kernel_rfl
theorem lv_3 (S : Stat) (L : List Conf) (A : List Todo) (z : Bri) (s : BS) (q r q4 rest : Bool) (i : Nat) (a : Todo) (ha : a = A.getD (i : Int).toNat Todo.dflt) : Out.way [true, true, true, true, false, false, false, true, true] (lvT S L A z s q r q4 rest i) =
   some (lvCs L A rest i ++ [a.kind.tmod 4 == 0, a.kind.tmod 4 == 1, a.kind.tmod 4 == 2, bsT s.ps.length s (ixB s (actK L.length a)) (checkF s (actK L.length a)).1.ps.length, bsT s.ps.length (checkF s (actK L.length a)).1 (roomRun (checkF s (actK L.length a)).1) (runF (checkF s (actK L.length a)).1).1.ps.length], lvEnd L A z s.ps.length (checkF s (actK L.length a)).1 q r q4 i) := by
 subst ha; kernel_rfl
theorem lv_end (S : Stat) (L : List Conf) (A : List Todo) (z : Bri) (s : BS) (q r q4 rest : Bool) (i : Nat) : Out.way [false] (trimC [6, 8, 11] [2, 7, 4, 8, 9] (exec (cLv (S.rd i 2)) (fnOf 16).ntmps 60 (lpOf 16 0) (lvSt L A z s q r q4 rest (.v (.int .i64 i))))) =
   some ([(decide ((i : Int) < A.length) && rest) && decide ((L.length : Int) > 0)], (.exit 0, ⟨[(6, [], .ptr 2 0), (8, [], .ptr 7 0), (11, [], .v (.bool rest))], brH [(2, z.sv nil3 nil3 nil3)] 7 4 8 9 s q4, 0⟩)) := by kernel_rfl
structure LvX where
 L : List Conf
 A : List Todo
 z : Bri
 q : Bool
 r : Bool
 q4 : Bool
 s : BS
 rest : Bool
 i : Nat
structure LvI (x : LvX) : Prop where
 L1 : 1 ≤ x.L.length
 L2 : x.L.length ≤ 1000
 A1 : x.A.length ≤ 1000
 ap : ∀ a ∈ x.A, 0 ≤ a.port ∧ a.port < 256
 ps : x.s.ps.length = x.L.length
 out : x.s.out.length ≤ 10000000
 fl : x.s.fl.length ≤ 10000000
 i : x.i ≤ x.A.length
def lvOf (x : LvX) : BS × Bool := liveL x.L.length (x.A.drop x.i) (x.s, x.rest)
def lvRes (x : LvX) : Ex × St := (.exit 0, ⟨[(6, [], .ptr 2 0), (8, [], .ptr 7 0), (11, [], .v (.bool (lvOf x).2))], brH [(2, x.z.sv nil3 nil3 nil3)] 7 4 10 11 (lvOf x).1 x.q4, 12⟩)
theorem enable_len (s : BS) (k : Int) (on : Bool) : (enableF s k on).1.ps.length = s.ps.length ∧ (enableF s k on).1.out = s.out ∧ (enableF s k on).1.fl = s.fl := by
 unfold enableF
 split
 · exact ⟨rfl, rfl, rfl⟩
 · exact ⟨List.length_set, rfl, rfl⟩
theorem check_len (s : BS) (k : Int) : (checkF s k).1.ps.length = s.ps.length ∧ (checkF s k).1.out = s.out ∧ (checkF s k).1.fl = s.fl := by
 unfold checkF
 split
 · exact ⟨List.length_set, rfl, rfl⟩
 · exact ⟨rfl, rfl, rfl⟩
theorem hear_len (s : BS) (k : Int) (m : Msg) : (hearF s k m).1.ps.length = s.ps.length ∧ (hearF s k m).1.out = s.out ∧ (hearF s k m).1.fl = s.fl := by
 unfold hearF
 split
 · exact ⟨rfl, rfl, rfl⟩
 · refine ⟨?_, rfl, rfl⟩
   show (modI k bpP (s.ps.set k.toNat (msgP m (portAt s k)))).length = _
   unfold modI
   rw [List.length_set, List.length_set]
theorem tick_len (s : BS) : (tickF s).ps.length = s.ps.length ∧ (tickF s).out = s.out ∧ (tickF s).fl = s.fl := ⟨List.length_map .., rfl, rfl⟩
theorem act_len (n : Nat) (s : BS) (a : Todo) : (actF n s a).ps.length = s.ps.length ∧ (actF n s a).out = s.out ∧ (actF n s a).fl = s.fl := by
 unfold actF
 split
 · exact tick_len s
 · split
   · exact enable_len s _ _
   · split
     · exact hear_len s _ _
     · exact check_len s _
theorem runF_len (s : BS) (h : s.ps.length ≤ 1000) : (runF s).1.ps.length = s.ps.length ∧ (runF s).1.out.length ≤ s.out.length + 8000000 ∧ (runF s).1.fl.length ≤ s.fl.length + 8000000 := runN_len 1000 s 0 h
theorem actK_rng {n : Nat} {a : Todo} (hn : 1 ≤ n) (ha : 0 ≤ a.port ∧ a.port < 256) : 0 ≤ actK n a ∧ actK n a < n := by
 unfold actK
 have : IntKind.i64.wrap a.port = a.port := by
   have h1 : IntKind.i64.wrap a.port = IntKind.i64.wrap ((a.port - 1) + 1) := by rw [show a.port - 1 + 1 = a.port from by omega]
   rcases Int.lt_or_le a.port 1 with h | h
   · have : a.port = 0 := by omega
     rw [this]; rfl
   · have h2 := wrap_succ (n := 300) (i := (a.port - 1).toNat) (by omega) (by omega)
     have e : (((a.port - 1).toNat : Nat) : Int) = a.port - 1 := by omega
     rw [show (((a.port - 1).toNat + 1 : Nat) : Int) = a.port from by omega, e, show a.port - 1 + 1 = a.port from by omega] at h2
     exact h2
 rw [this]
 exact ⟨Int.tmod_nonneg _ ha.1, Int.tmod_lt_of_pos _ (by omega)⟩
theorem bsT_true {n : Nat} {s : BS} {C : Bool} {l : Nat} (hn : n = s.ps.length) (hC : C = true) (hl : l = s.ps.length) : bsT n s C l = true := by simp [bsT, hn, hC, hl]
theorem roomRun_true {s : BS} (h : s.ps.length ≤ 1000) (h2 : s.out.length ≤ 10000000) (h3 : s.fl.length ≤ 10000000) : roomRun s = true := decide_eq_true ⟨h, by omega, by omega⟩
theorem lv_go (S : Stat) (x : LvX) (hI : LvI x) (hi : x.i < x.A.length) (hr : x.rest = true) (a : Todo) (ha : a = x.A.getD (x.i : Int).toNat Todo.dflt) : (lvT S x.L x.A x.z x.s x.q x.r x.q4 x.rest x.i).sel = some (lvEnd x.L x.A x.z x.s.ps.length (actF x.L.length x.s a) x.q x.r x.q4 x.i) := by
 have h1 := hI.L1
 have h2 := hI.L2
 have hps := hI.ps
 have hc : lvCs x.L x.A x.rest x.i = [true, true, true, true] := by
   have e1 : (x.i : Int) < x.A.length := by omega
   have e2 : (x.L.length : Int) > 0 := by omega
   have e3 : (x.i : Int).toNat < (Rows.todo x.A).len := by show (x.i : Int).toNat < x.A.length; omega
   have e4 : ((x.L.length : Int) == 0) = false := by simpa using (show ¬ ((x.L.length : Int) = 0) by omega)
   simp only [lvCs, e1, e2, e3, e4, hr, decide_true, Bool.and_self, Bool.not_false, show decide (0 ≤ (x.i : Int)) = true from by simp]
 have ham : a ∈ x.A := by
   rw [ha]
   show x.A.getD x.i Todo.dflt ∈ x.A
   rw [List.getD_eq_getElem?_getD, List.getElem?_eq_getElem hi]
   exact List.getElem_mem hi
 have hk := actK_rng h1 (hI.ap a ham)
 have hix : ixB x.s (actK x.L.length a) = true := by simp only [ixB, Bool.and_eq_true, decide_eq_true_eq]; omega
 have hl := act_len x.L.length x.s a
 have run : ∀ t : BS, t.ps.length = x.s.ps.length ∧ t.out = x.s.out ∧ t.fl = x.s.fl → bsT x.s.ps.length t (roomRun t) (runF t).1.ps.length = true := by
   intro t ⟨e1, e2, e3⟩
   refine bsT_true e1.symm (roomRun_true (by omega) (by rw [e2]; exact hI.out) (by rw [e3]; exact hI.fl)) ?_
   exact (runF_len t (by omega)).1
 unfold actF
 cases k0 : (a.kind.tmod 4 == 0) with
 | true =>
   rw [if_pos rfl]
   refine Out.way_sel (lv_0 S x.L x.A x.z x.s x.q x.r x.q4 x.rest x.i a ha) ?_
   rw [hc, k0, bsT_true rfl (decide_eq_true (by omega)) (tick_len x.s).1, run _ (tick_len x.s)]
   rfl
 | false =>
   rw [if_neg (by decide)]
   cases k1 : (a.kind.tmod 4 == 1) with
   | true =>
     rw [if_pos rfl]
     refine Out.way_sel (lv_1 S x.L x.A x.z x.s x.q x.r x.q4 x.rest x.i a ha) ?_
     rw [hc, k0, k1, bsT_true rfl hix (enable_len x.s _ _).1, run _ (enable_len x.s _ _)]
     rfl
   | false =>
     rw [if_neg (by decide)]
     cases k2 : (a.kind.tmod 4 == 2) with
     | true =>
       rw [if_pos rfl]
       refine Out.way_sel (lv_2 S x.L x.A x.z x.s x.q x.r x.q4 x.rest x.i a ha) ?_
       rw [hc, k0, k1, k2, bsT_true rfl hix (hear_len x.s _ _).1, run _ (hear_len x.s _ _)]
       rfl
     | false =>
       rw [if_neg (by decide)]
       refine Out.way_sel (lv_3 S x.L x.A x.z x.s x.q x.r x.q4 x.rest x.i a ha) ?_
       rw [hc, k0, k1, k2, bsT_true rfl hix (check_len x.s _).1, run _ (check_len x.s _)]
       rfl
theorem fix_lv (L : List Conf) (A : List Todo) (z : Bri) : FixH 8 (lvF L A z) := by
 intro k x hm
 simp only [lvF, List.mem_cons, List.not_mem_nil, or_false, Prod.mk.injEq] at hm
 rcases hm with ⟨rfl, rfl⟩ | ⟨rfl, rfl⟩ | ⟨rfl, rfl⟩
 · exact ⟨by decide, fun _ _ _ _ => rfl, fun _ => trivial⟩
 · exact ⟨by decide, fun _ _ _ _ => rfl, fun _ => trivial⟩
 · exact ⟨by decide, fun _ _ _ _ => rfl, fun _ => trivial⟩
theorem fix_z (z : Bri) : FixH 8 [(2, z.sv nil3 nil3 nil3)] := by
 intro k x hm
 simp only [List.mem_cons, List.not_mem_nil, or_false, Prod.mk.injEq] at hm
 obtain ⟨rfl, rfl⟩ := hm
 exact ⟨by decide, fun _ _ _ _ => rfl, fun _ => trivial⟩
def gLvL : LoopFn := onTrimB 10 [1, 2, 6, 8, 11, 12] fun st => match st with
 | ⟨[(1, [], .slr 0 n 0 q), (2, [], .slr 1 m 1 r), (6, [], .ptr 2 0), (8, [], .ptr 7 0), (11, [], .v (.bool rest)), (12, [], .ki .i64 0)], [(7, bx), (2, zx), (0, .rows (.conf L)), (1, .rows (.todo A)), (3, _), (6, _), (5, _), (4, .rows (.port ps)), (9, .rows (.int .i64 fl)), (8, .rows (.sent out))], _⟩ =>
   (match unBri bx, unBri zx with
   | some (b, .slr 4 n4 4 q4, .slr 8 n8 8 false, .slr 9 n9 9 false), some (z, .v (.slice none 0 0), .v (.slice none 0 0), .v (.slice none 0 0)) =>
       some (.ite (decide (n = L.length ∧ m = A.length ∧ n4 = ps.length ∧ n8 = out.length ∧ n9 = fl.length) && decide (1 ≤ L.length ∧ L.length ≤ 1000 ∧ A.length ≤ 1000 ∧ (∀ a ∈ A, 0 ≤ a.port ∧ a.port < 256) ∧ ps.length = L.length ∧ out.length ≤ 10000000 ∧ fl.length ≤ 10000000))
         (.ret (lvRes ⟨L, A, z, q, r, q4, ⟨b, ps, out, fl⟩, rest, 0⟩)) .bad)
   | _, _ => none)
 | _ => none
theorem lv_ro (S : Stat) (i : Int) : ∀ k, 8 ≤ k → (S.rd i 2).ro k = false := by
 intro k hk
 show Nat.blt k 2 = false
 cases h : Nat.blt k 2 with
 | false => rfl
 | true => have := (by simpa using h : k < 2); omega
theorem gLvL_ok (S : Stat) (ls : List (Nat × LoopFn)) : LoopOk Tryz.prog (withLoops (cLv (S.rd 0 2)) ls) (fnOf 16).ntmps (lpOf 16 0) gLvL := by
 have hS : ∀ S, (cLv S).S = S := cLv_fam.S
 refine loop_gen cLv_fam (fx := 8) (nx := 10) (fuel := 60) (S.rd 0 2) (fun x : LvX => cLv (S.rd x.i 2)) (fun x => lvSt x.L x.A x.z x.s x.q x.r x.q4 x.rest (.v (.int .i64 x.i))) LvI (fun x => x.A.length - x.i) lvRes (fun x => ⟨cLv_fam.full _, cLv_fam.win _, LoopsOk.none (cLv_fam.loop _) _⟩) (fun x => by show 8 ≤ 10; decide) ?_ ?_
 · intro st o r ho hr
   split at ho
   · rename_i n q m r' rest bx zx L A y3 y6 y5 ps fl out _
     split at ho
     · rename_i b n4 q4 n8 n9 z hb hz
       injection ho with ho
       subst ho
       obtain ⟨ht, hr2⟩ := Out.ite_bad hr
       simp only [Bool.and_eq_true, decide_eq_true_eq] at ht
       obtain ⟨⟨rfl, rfl, rfl, rfl, rfl⟩, h1, h2, h3, h4, h5, h6, h7⟩ := ht
       obtain ⟨rfl, _, _⟩ := unBri_ok hb
       obtain ⟨rfl, _, _⟩ := unBri_ok hz
       obtain rfl := Option.some.inj hr2
       refine ⟨⟨L, A, z, q, r', q4, ⟨b, ps, out, fl⟩, rest, 0⟩, ⟨h1, h2, h3, h4, h5, h6, h7, Nat.zero_le _⟩, rfl, by show 10 ≤ 12; decide, fun E => ⟨brE E E 8 9 (.at_ 8) (.at_ 9), brR 8 9 (.at_ 8) (.at_ 9), brE_upto _ _ _ _ (by decide) (by decide), ?_, ?_, ?_⟩⟩
       · exact ⟨⟨_, rfl, rfl⟩, ⟨_, rfl, rfl⟩, ⟨_, rfl, rfl⟩, ⟨_, rfl, rfl⟩, ⟨_, rfl, rfl⟩, ⟨_, rfl, rfl⟩, trivial⟩
       all_goals
         have hat : BrAt [(7, b.sv (.slr 4 ps.length 4 q4) (.slr 8 out.length 8 false) (.slr 9 fl.length 9 false)), (2, z.sv nil3 nil3 nil3), (0, .rows (.conf L)), (1, .rows (.todo A)), (3, y3), (6, y6), (5, y5), (4, .rows (.port ps)), (9, .rows (.int .i64 fl)), (8, .rows (.sent out))] (lvF L A z) 7 4 8 ⟨b, ps, out, fl⟩ q4 (.at_ 8) (.at_ 9) := by
           refine ⟨fun k x hm => ?_, rfl, rfl, ⟨by decide, rfl⟩, ⟨by decide, rfl⟩, by decide⟩
           simp only [lvF, List.mem_cons, List.not_mem_nil, or_false, Prod.mk.injEq] at hm
           rcases hm with ⟨rfl, rfl⟩ | ⟨rfl, rfl⟩ | ⟨rfl, rfl⟩ <;> rfl
         have := re_br (S := S.rd 0 2) (S' := (cLv (S.rd (0 : Nat) 2)).S) (E0 := E) (E := E) (n2 := 8) (n3 := 9) hat (fix_lv L A z) (by rw [hS]; rfl) (lv_ro S 0) (by decide) (Env.upto.refl _ _)
       · exact this.1
       · exact this.2
     · cases ho
   · cases ho
 · intro x hI
   have h1 := hI.L1
   have h2 := hI.L2
   have hS' : (cLv (S.rd x.i 2)).S = S.rd x.i 2 := hS _
   by_cases hgo : x.i < x.A.length ∧ x.rest = true
   · obtain ⟨hi, hr⟩ := hgo
     obtain ⟨a, ha⟩ : ∃ a, a = x.A.getD (x.i : Int).toNat Todo.dflt := ⟨_, rfl⟩
     have hsel := lv_go S x hI hi hr a ha
     have hd : x.A.drop x.i = a :: x.A.drop (x.i + 1) := by
       rw [List.drop_eq_getElem_cons hi, ha]
       congr 1
       show _ = x.A.getD x.i Todo.dflt
       rw [List.getD_eq_getElem?_getD, List.getElem?_eq_getElem hi]
       rfl
     have hal := act_len x.L.length x.s a
     have hps := hI.ps
     have hrl := runF_len (actF x.L.length x.s a) (by omega)
     refine ⟨[1, 2, 6, 8, 11, 12], [0, 1, 2, 7, 4], .nrm, _, hsel, .inl ⟨rfl, ⟨x.L, x.A, x.z, x.q, x.r, x.q4, clr (runF (actF x.L.length x.s a)).1, (runF (actF x.L.length x.s a)).2.2, x.i + 1⟩, ⟨h1, h2, hI.A1, hI.ap, ?_, ?_, ?_, hi⟩, ?_, ?_, fun E1 => ⟨brE E1 E1 8 9 .nil .nil, brR 8 9 .nil .nil, brE_upto _ _ _ _ (by decide) (by decide), ?_, ?_, ?_⟩⟩⟩
     · show (runF (actF x.L.length x.s a)).1.ps.length = x.L.length; omega
     · show 0 ≤ _; omega
     · show 0 ≤ _; omega
     · show x.A.length - (x.i + 1) < _; omega
     · have : lvOf ⟨x.L, x.A, x.z, x.q, x.r, x.q4, clr (runF (actF x.L.length x.s a)).1, (runF (actF x.L.length x.s a)).2.2, x.i + 1⟩ = lvOf x := by
         unfold lvOf
         rw [hd]
         dsimp only
         rw [liveL, if_pos hr]
       unfold lvRes
       rw [this]
     · have hw : IntKind.i64.wrap ((x.i : Int) + 1) = ((x.i + 1 : Nat) : Int) := wrap_succ (n := 1001) (by have := hI.A1; omega) (by omega)
       refine ⟨⟨_, rfl, rfl⟩, ⟨_, rfl, rfl⟩, ⟨_, rfl, rfl⟩, ⟨_, rfl, rfl⟩, ⟨_, rfl, rfl⟩, ⟨_, rfl, ?_⟩, trivial⟩
       simp only [SV.den, hw]
     all_goals
       have hat : BrAt (lvF x.L x.A x.z ++ [(7, (runF (actF x.L.length x.s a)).1.b.sv (.slr 4 x.s.ps.length 4 x.q4) nil3 nil3), (4, .rows (.port (runF (actF x.L.length x.s a)).1.ps))]) (lvF x.L x.A x.z) 7 4 8 (clr (runF (actF x.L.length x.s a)).1) x.q4 .nil .nil := by
         refine ⟨fun k y hm => ?_, ?_, rfl, rfl, rfl, by decide⟩
         · simp only [lvF, List.mem_cons, List.not_mem_nil, or_false, Prod.mk.injEq] at hm
           rcases hm with ⟨rfl, rfl⟩ | ⟨rfl, rfl⟩ | ⟨rfl, rfl⟩ <;> rfl
         · show some _ = some _
           rw [show (clr (runF (actF x.L.length x.s a)).1).ps.length = x.s.ps.length from by show (runF (actF x.L.length x.s a)).1.ps.length = _; omega]
           rfl
       have := re_br (S := (cLv (S.rd x.i 2)).S) (S' := (cLv (S.rd ((x.i + 1 : Nat) : Int) 2)).S) (E0 := E1) (E := E1) (n2 := 8) (n3 := 9) hat (fix_lv x.L x.A x.z) (by rw [hS, hS]; rfl) (by rw [hS]; exact lv_ro S x.i) (by decide) (Env.upto.refl _ _)
     · exact this.1
     · exact this.2
   · have hc : ((decide ((x.i : Int) < x.A.length) && x.rest) && decide ((x.L.length : Int) > 0)) = false := by
       cases hr : x.rest with
       | false => simp
       | true =>
         have : ¬ x.i < x.A.length := fun h => hgo ⟨h, hr⟩
         have : ¬ (x.i : Int) < x.A.length := by omega
         simp [this]
     have hsel := Out.way_sel (lv_end S x.L x.A x.z x.s x.q x.r x.q4 x.rest x.i) (by rw [hc])
     have hof : lvOf x = (x.s, x.rest) := by
       unfold lvOf
       cases hd : x.A.drop x.i with
       | nil => rfl
       | cons a r =>
         have hi : x.i < x.A.length := by
           have := congrArg List.length hd
           simp at this; omega
         rw [liveL, if_neg (fun h => hgo ⟨hi, h⟩)]
     refine ⟨[6, 8, 11], [2, 7, 4, 8, 9], .exit 0, _, hsel, .inr ⟨by simp, rfl, fun E0 E1 hu => ⟨brE E0 E1 10 11 (.at_ 8) (.at_ 9), brR 10 11 (.at_ 8) (.at_ 9), brE_upto _ _ _ _ (by decide) (by decide), ?_, ?_, ?_⟩⟩⟩
     all_goals (unfold lvRes; rw [hof])
     · have hu2 := hu 2 (by decide)
       have hu7 := hu 7 (by decide)
       refine ⟨⟨_, rfl, ?_⟩, ⟨_, rfl, ?_⟩, ⟨_, rfl, rfl⟩, trivial⟩
       · simp [SV.den, Env.place, brE, hu2]
       · simp [SV.den, Env.place, brE, hu7]
     all_goals
       have hat : BrAt (brH [(2, x.z.sv nil3 nil3 nil3)] 7 4 8 9 x.s x.q4) [(2, x.z.sv nil3 nil3 nil3)] 7 4 8 x.s x.q4 (.at_ 8) (.at_ 9) := by
         refine ⟨fun k y hm => ?_, rfl, rfl, ⟨by decide, rfl⟩, ⟨by decide, rfl⟩, by decide⟩
         simp only [List.mem_cons, List.not_mem_nil, or_false, Prod.mk.injEq] at hm
         obtain ⟨rfl, rfl⟩ := hm
         rfl
       have := re_br (S := (cLv (S.rd x.i 2)).S) (S' := S.rd 0 2) (E0 := E0) (E := E1) (n2 := 10) (n3 := 11) hat (fix_z x.z) (by rw [hS]; rfl) (by rw [hS]; exact lv_ro S x.i) (by decide) hu
     · exact this.1
     · exact this.2
end
section
open Go Go.RowKit
def lvTm : Times := ⟨0, 20, 2, 15⟩
def lvN (rst : Bool) (L : List Conf) : Bri × List Port × Bool := newOf cRightF 7 rst lvTm 6 L
def lvS0 (rst : Bool) (L : List Conf) : BS := ⟨(lvN rst L).1, (lvN rst L).2.1, [], []⟩
def lvS1 (rst : Bool) (L : List Conf) : BS × Bool := ((runF (lvS0 rst L)).1, (runF (lvS0 rst L)).2.2)
def liveF (rst : Bool) (L : List Conf) (A : List Todo) : BS × Bool := liveL L.length A (lvS1 rst L)
def okCf (L : List Conf) : Bool := decide (L.length = L.length ∧ L.length ≤ 1000)
def t4L (rst : Bool) (L : List Conf) : Bool := decide ((lvN rst L).2.1.length = (lvN rst L).2.1.length ∧ 0 = ([] : List Sent).length ∧ 0 = ([] : List Int).length) && (roomRun (lvS0 rst L) && decide ((runF (lvS0 rst L)).1.ps.length = (lvN rst L).2.1.length))
def t5L (rst : Bool) (L : List Conf) (A : List Todo) : Bool := decide (L.length = L.length ∧ A.length = A.length ∧ (lvN rst L).2.1.length = (lvS1 rst L).1.ps.length ∧ (lvS1 rst L).1.out.length = (lvS1 rst L).1.out.length ∧ (lvS1 rst L).1.fl.length = (lvS1 rst L).1.fl.length) &&
 decide (1 ≤ L.length ∧ L.length ≤ 1000 ∧ A.length ≤ 1000 ∧ (∀ a ∈ A, 0 ≤ a.port ∧ a.port < 256) ∧ (lvS1 rst L).1.ps.length = L.length ∧ (lvS1 rst L).1.out.length ≤ 10000000 ∧ (lvS1 rst L).1.fl.length ≤ 10000000)
theorem live_run (S : Stat) (rst : Bool) (L : List Conf) (A : List Todo) (q r : Bool) : Out.way [true, true, false, true, true] (trimR [4, 10, 11] (inline (withLoops (cLv (S.rd 0 2)) [(6, gLvL)]) 60 (fnOf 16) [.v (.bool rst), .slr 0 L.length 0 q, .slr 1 A.length 1 r] [(0, .rows (.conf L)), (1, .rows (.todo A))] 2)) =
   some ([okCf L, okCf L, !((lvN rst L).2.2), t4L rst L, t5L rst L A],
     (.tup [(liveF rst L A).1.b.sv (.slr 4 (liveF rst L A).1.ps.length 4 false) (.slr 10 (liveF rst L A).1.out.length 10 false) (.slr 11 (liveF rst L A).1.fl.length 11 false), .v (.bool (liveF rst L A).2)],
       [(4, .rows (.port (liveF rst L A).1.ps)), (10, .rows (.sent (liveF rst L A).1.out)), (11, .rows (.int .i64 (liveF rst L A).1.fl))], 0)) := by kernel_rfl
def lvOk (rst : Bool) (L : List Conf) (A : List Todo) : Bool := (lvN rst L).2.2 && decide (1 ≤ L.length ∧ L.length ≤ 1000 ∧ A.length ≤ 1000 ∧ ∀ a ∈ A, 0 ≤ a.port ∧ a.port < 256)
theorem lvN_eq {rst : Bool} {L : List Conf} (h : (lvN rst L).2.2 = true) : lvN rst L = (newB 7 rst lvTm 6, newPs L rst lvTm, true) := by
 unfold lvN newOf at *
 split at h
 · rename_i hR; rw [if_pos hR]
 · cases h
theorem lv_tests {rst : Bool} {L : List Conf} {A : List Todo} (h : lvOk rst L A = true) : okCf L = true ∧ (lvN rst L).2.2 = true ∧ t4L rst L = true ∧ t5L rst L A = true := by
 simp only [lvOk, Bool.and_eq_true, decide_eq_true_eq] at h
 obtain ⟨h0, h1, h2, h3, h4⟩ := h
 have hn := lvN_eq h0
 have hl : (lvN rst L).2.1.length = L.length := by rw [hn]; exact newPs_length L rst lvTm
 have hr := runF_len (lvS0 rst L) (by show (lvN rst L).2.1.length ≤ 1000; omega)
 have hp : (runF (lvS0 rst L)).1.ps.length = L.length := hr.1.trans hl
 have ho : (runF (lvS0 rst L)).1.out.length ≤ 0 + 8000000 := hr.2.1
 have hf : (runF (lvS0 rst L)).1.fl.length ≤ 0 + 8000000 := hr.2.2
 refine ⟨decide_eq_true ⟨rfl, h2⟩, h0, ?_, ?_⟩
 · have e1 : roomRun (lvS0 rst L) = true := roomRun_true (by show (lvN rst L).2.1.length ≤ 1000; omega) (Nat.zero_le _) (Nat.zero_le _)
   unfold t4L
   rw [e1, hp, hl]
   simp
 · unfold t5L
   rw [hl, show (lvS1 rst L).1.ps.length = L.length from hp]
   have ho' : (lvS1 rst L).1.out.length ≤ 10000000 := by show (runF (lvS0 rst L)).1.out.length ≤ _; omega
   have hf' : (lvS1 rst L).1.fl.length ≤ 10000000 := by show (runF (lvS0 rst L)).1.fl.length ≤ _; omega
   rw [Bool.and_eq_true]
   exact ⟨decide_eq_true ⟨rfl, rfl, rfl, rfl, rfl⟩, decide_eq_true ⟨h1, h2, h3, h4, rfl, ho', hf'⟩⟩
def lvV (x : BS × Bool) (n : Nat) : SV := .tup [x.1.b.sv (.slr n x.1.ps.length n false) (.slr (n + 1) x.1.out.length (n + 1) false) (.slr (n + 2) x.1.fl.length (n + 2) false), .v (.bool x.2)]
def lvH (s : BS) (n : Nat) : Heap := [(n, .rows (.port s.ps)), (n + 1, .rows (.sent s.out)), (n + 2, .rows (.int .i64 s.fl))]
theorem lvH_get {s : BS} {n k : Nat} {x : SV} (hk : (lvH s n).get k = some x) : (k = n ∧ x = .rows (.port s.ps)) ∨ (k = n + 1 ∧ x = .rows (.sent s.out)) ∨ (k = n + 2 ∧ x = .rows (.int .i64 s.fl)) := by
 unfold lvH at hk
 simp only [Heap.get_cons] at hk
 split at hk
 · rename_i h; exact .inl ⟨h, (Option.some.inj hk).symm⟩
 · split at hk
   · rename_i h; exact .inr (.inl ⟨h, (Option.some.inj hk).symm⟩)
   · split at hk
     · rename_i h; exact .inr (.inr ⟨h, (Option.some.inj hk).symm⟩)
     · cases hk
def gLiveA : CanonFn := fun ro args H m => match args, H with
 | [.v (.bool rst), .slr 0 n 0 _, .slr 1 k 1 _], [(0, .rows (.conf L)), (1, .rows (.todo A))] => bif Nat.beq m 2 then .ite (decide (n = L.length ∧ k = A.length) && lvOk rst L A) (.ret (lvV (liveF rst L A) 2, (0, .rows (.conf L)) :: (1, .rows (.todo A)) :: lvH (liveF rst L A).1 2, 5)) .bad else .bad
 | _, _ => .bad
theorem gLiveA_some {ro : Nat → Bool} {args : List SV} {H : Heap} {m : Nat} {x : SV × Heap × Nat} (h : (gLiveA ro args H m).sel = some x) :
   ∃ rst L A q r, args = [.v (.bool rst), .slr 0 L.length 0 q, .slr 1 A.length 1 r] ∧ H = [(0, .rows (.conf L)), (1, .rows (.todo A))] ∧ m = 2 ∧ lvOk rst L A = true ∧ x = (lvV (liveF rst L A) 2, (0, .rows (.conf L)) :: (1, .rows (.todo A)) :: lvH (liveF rst L A).1 2, 5) := by
 unfold gLiveA at h
 split at h
 · rename_i rst n q k r L A
   cases hm : Nat.beq m 2 with
   | false => rw [hm] at h; cases h
   | true =>
     rw [hm] at h
     simp only [cond_true] at h
     obtain ⟨ht, h2⟩ := Out.ite_bad h
     simp only [Bool.and_eq_true, decide_eq_true_eq] at ht
     obtain ⟨⟨rfl, rfl⟩, hok⟩ := ht
     obtain rfl := Option.some.inj h2
     exact ⟨rst, L, A, q, r, rfl, rfl, by simpa using hm, hok, rfl⟩
 · cases h
def lvE (E : Env) : Env := { ad := fun j => if j = 2 then E.ad 4 else if j = 3 then E.ad 10 else if j = 4 then E.ad 11 else E.ad j, cp := fun j => if j = 2 then E.cp 4 else if j = 3 then E.cp 10 else if j = 4 then E.cp 11 else E.cp j }
theorem lvE_upto (E : Env) : Env.upto 2 E (lvE E) := by
 intro j hj
 have h1 : j ≠ 2 := by omega
 have h2 : j ≠ 3 := by omega
 have h3 : j ≠ 4 := by omega
 simp [lvE, h1, h2, h3]
theorem two_get {L : List Conf} {A : List Todo} {H : Heap} {k : Nat} {x : SV} (hk : Heap.get ((0, SV.rows (.conf L)) :: (1, SV.rows (.todo A)) :: H) k = some x) : (k = 0 ∧ x = .rows (.conf L)) ∨ (k = 1 ∧ x = .rows (.todo A)) ∨ (H.get k = some x ∧ k ≠ 0 ∧ k ≠ 1) := by
 rw [Heap.get_cons, Heap.get_cons] at hk
 split at hk
 · rename_i h; exact .inl ⟨h, (Option.some.inj hk).symm⟩
 · rename_i h0
   split at hk
   · rename_i h; exact .inr (.inl ⟨h, (Option.some.inj hk).symm⟩)
   · rename_i h1; exact .inr (.inr ⟨hk, h0, h1⟩)
theorem liveA_ok : CanonOk 16 gLiveA := by
 refine canon_new Tryz.func16 (by kernel_rfl) fun S args H m x hr => ?_
 obtain ⟨rst, L, A, q, r, rfl, rfl, rfl, hok, rfl⟩ := gLiveA_some hr
 obtain ⟨t1, t3, t4, t5⟩ := lv_tests hok
 have hw := Out.way_sel (live_run S rst L A q r) (by rw [t1, t3, t4, t5]; rfl)
 obtain ⟨H1, m1, hinl, hget⟩ := trimR_sel hw
 have two : ∀ k y, Heap.get [(0, SV.rows (.conf L)), (1, SV.rows (.todo A))] k = some y → (k = 0 ∧ y = .rows (.conf L)) ∨ (k = 1 ∧ y = .rows (.todo A)) := by
   intro k y hk
   rcases two_get hk with h | h | ⟨h, _, _⟩
   · exact .inl h
   · exact .inr h
   · cases h
 have three : ∀ k y, Heap.get ((0, SV.rows (.conf L)) :: (1, SV.rows (.todo A)) :: lvH (liveF rst L A).1 2) k = some y → (k = 0 ∧ y = .rows (.conf L)) ∨ (k = 1 ∧ y = .rows (.todo A)) ∨ (k = 2 ∧ y = .rows (.port (liveF rst L A).1.ps)) ∨ (k = 3 ∧ y = .rows (.sent (liveF rst L A).1.out)) ∨ (k = 4 ∧ y = .rows (.int .i64 (liveF rst L A).1.fl)) := by
   intro k y hk
   rcases two_get hk with h | h | ⟨h, _, _⟩
   · exact .inl h
   · exact .inr (.inl h)
   · exact .inr (.inr (lvH_get h))
 refine ⟨by show 2 ≤ 5; decide, fun k y hk => ?_, fun k y hk => ?_, fun E => ⟨_, 60, _, _, (_, H1, m1), good_loops cLv_fam (S.rd 0 2) [(6, gLvL)] (by kernel_rfl) rfl (fun i k g hg => ?_), fun k y hk => ?_, hinl, ?_, ?_, fun E' hu => ⟨lvE E', fun k => if k = 2 then 4 else if k = 3 then 10 else if k = 4 then 11 else k, lvE_upto _, ?_, fun k y hk hmk => ?_, fun k k' y y' hne hk hk' h1 h1' => ?_⟩⟩⟩
 · rcases three k y hk with ⟨rfl, rfl⟩ | ⟨rfl, rfl⟩ | ⟨rfl, rfl⟩ | ⟨rfl, rfl⟩ | ⟨rfl, rfl⟩
   · exact .inl rfl
   · exact .inl rfl
   all_goals exact .inr (by decide)
 · rcases two k y hk with ⟨rfl, rfl⟩ | ⟨rfl, rfl⟩ <;> exact ⟨by decide, rfl⟩
 · match i, hg with
   | 0, hg => obtain ⟨rfl, rfl⟩ := Prod.mk.inj (Option.some.inj hg); exact gLvL_ok S _
 · rcases two k y hk with ⟨rfl, rfl⟩ | ⟨rfl, rfl⟩ <;> rfl
 · exact dens_cons rfl (dens_cons rfl (dens_cons rfl (dens_nil _ _ _ _)))
 · exact ⟨⟨_, rfl, rfl, trivial⟩, ⟨_, rfl, rfl, trivial⟩, trivial⟩
 · simp [lvV, lvE, SV.den, SV.dens, Bri.sv, SV.cellss, SV.cells, Env.place, SV.aggr]
 · rcases three k y hk with ⟨rfl, rfl⟩ | ⟨rfl, rfl⟩ | ⟨rfl, rfl⟩ | ⟨rfl, rfl⟩ | ⟨rfl, rfl⟩
   · exact absurd hmk (by decide)
   · exact absurd hmk (by decide)
   · exact ⟨trivial, .inr ⟨rfl, _, hget 4 _ rfl, rfl, rfl, rfl⟩⟩
   · exact ⟨trivial, .inr ⟨rfl, _, hget 10 _ rfl, rfl, rfl, rfl⟩⟩
   · exact ⟨trivial, .inr ⟨rfl, _, hget 11 _ rfl, rfl, rfl, rfl⟩⟩
 · dsimp only
   rcases three k y hk with ⟨rfl, rfl⟩ | ⟨rfl, rfl⟩ | ⟨rfl, rfl⟩ | ⟨rfl, rfl⟩ | ⟨rfl, rfl⟩ <;> rcases three k' y' hk' with ⟨rfl, rfl⟩ | ⟨rfl, rfl⟩ | ⟨rfl, rfl⟩ | ⟨rfl, rfl⟩ | ⟨rfl, rfl⟩ <;> first | omega | simp
def gLive : CanonFn := fun ro args H m => match args, H with
 | [.v (.bool rst), .slr 0 n 0 _, .v (.slice none 0 0)], [(0, .rows (.conf L))] => bif Nat.beq m 1 then .ite (decide (n = L.length) && lvOk rst L []) (.ret (lvV (liveF rst L []) 1, (0, .rows (.conf L)) :: lvH (liveF rst L []).1 1, 4)) .bad else .bad
 | _, _ => gLiveA ro args H m
theorem live_ok : CanonOk 16 gLive := by
 refine canon_pre liveA_ok fun S args H m x hr => ?_
 unfold gLive at hr
 split at hr
 · rename_i rst n q L
   cases hm : Nat.beq m 1 with
   | false => rw [hm] at hr; cases hr
   | true =>
     rw [hm] at hr
     simp only [cond_true] at hr
     obtain ⟨ht, h2⟩ := Out.ite_bad hr
     simp only [Bool.and_eq_true, decide_eq_true_eq] at ht
     obtain ⟨rfl, hok⟩ := ht
     obtain rfl := Option.some.inj h2
     have hm1 : m = 1 := by simpa using hm
     subst hm1
     have hsel : (gLiveA (fun k => match k with | 0 => S.ro 0 | 1 => true | k + 2 => S.ro (k + 1)) [.v (.bool rst), .slr 0 L.length 0 q, .slr 1 0 1 false] [(0, .rows (.conf L)), (1, .rows (.todo []))] 2).sel = some (lvV (liveF rst L []) 2, (0, .rows (.conf L)) :: (1, .rows (.todo [])) :: lvH (liveF rst L []).1 2, 5) := by
       have e : (decide (L.length = L.length ∧ 0 = ([] : List Todo).length) && lvOk rst L []) = true := by rw [hok]; simp
       show (Out.ite (decide (L.length = L.length ∧ 0 = ([] : List Todo).length) && lvOk rst L []) _ Out.bad).sel = _
       rw [e]
       rfl
     refine ⟨by show 1 ≤ 4; decide, { sl := S.sl, ix := S.ix, ro := fun k => match k with | 0 => S.ro 0 | 1 => true | k + 2 => S.ro (k + 1) }, [.v (.bool rst), .slr 0 L.length 0 q, .slr 1 0 1 false], [(0, .rows (.conf L)), (1, .rows (.todo []))], 2, _, hsel, fun E => ⟨{ ad := fun k => match k with | 0 => E.ad 0 | 1 => default | k + 2 => E.ad (k + 1), cp := fun k => match k with | 0 => E.cp 0 | 1 => (0, true) | k + 2 => E.cp (k + 1) }, ?_, fun w hw => ?_, fun b j hh => ?_, fun E' hu => ⟨{ ad := fun k => match k with | 0 => E'.ad 0 | k + 1 => E'.ad (k + 2), cp := fun k => match k with | 0 => E'.cp 0 | k + 1 => E'.cp (k + 2) }, fun k => match k with | 0 => 0 | k + 1 => k + 2, ?_, ?_, fun k y hk => ?_, fun k k' y y' hne _ _ _ _ => ?_⟩⟩⟩
     · simp [SV.dens, SV.den, Env.place]
     · refine ⟨fun k y hk hp => ?_, fun k y hk hp hnt hr => ?_, fun k k' y y' hne hk hk' hp hp' hr => ?_, fun k y hk => ?_⟩
       · rcases two_get hk with ⟨rfl, rfl⟩ | ⟨rfl, rfl⟩ | ⟨h, _, _⟩
         · exact hw.at_ 0 _ rfl hp
         · exact absurd hp (by show ¬ 0 < 0; decide)
         · cases h
       · rcases two_get hk with ⟨rfl, rfl⟩ | ⟨rfl, rfl⟩ | ⟨h, _, _⟩
         · exact hw.wr 0 _ rfl hp hnt hr
         · exact absurd hp (by show ¬ 0 < 0; decide)
         · cases h
       · rcases two_get hk with ⟨rfl, rfl⟩ | ⟨rfl, rfl⟩ | ⟨h, _, _⟩
         · rcases two_get hk' with ⟨rfl, rfl⟩ | ⟨rfl, rfl⟩ | ⟨h, _, _⟩
           · exact absurd rfl hne
           · exact absurd hp' (by show ¬ 0 < 0; decide)
           · cases h
         · exact absurd hp (by show ¬ 0 < 0; decide)
         · cases h
       · rcases two_get hk with ⟨rfl, rfl⟩ | ⟨rfl, rfl⟩ | ⟨h, _, _⟩
         · trivial
         · trivial
         · cases h
     · obtain ⟨k, y, hk, hr0, h0, h1, h3⟩ := hh
       rcases two_get hk with ⟨rfl, rfl⟩ | ⟨rfl, rfl⟩ | ⟨h, _, _⟩
       · exact ⟨0, _, rfl, hr0, h0, h1, h3⟩
       · have : (SV.rows (.todo [])).size = 0 := rfl
         omega
       · cases h
     · intro k hk
       have : k = 0 := by omega
       subst this
       exact hu 0 (by decide)
     · simp [lvV, SV.den, SV.dens, Bri.sv, SV.cellss, SV.cells, Env.place, SV.aggr]
     · dsimp only at hk
       rw [Heap.get_cons] at hk
       split at hk
       · rename_i h0
         subst h0
         obtain rfl := Option.some.inj hk
         exact ⟨trivial, .inr ⟨_, rfl, rfl, rfl, rfl, fun h => h⟩⟩
       · rcases lvH_get hk with ⟨rfl, rfl⟩ | ⟨rfl, rfl⟩ | ⟨rfl, rfl⟩
         · exact ⟨trivial, .inr ⟨_, rfl, rfl, rfl, rfl, fun h => h⟩⟩
         · exact ⟨trivial, .inr ⟨_, rfl, rfl, rfl, rfl, fun h => h⟩⟩
         · exact ⟨trivial, .inr ⟨_, rfl, rfl, rfl, rfl, fun h => h⟩⟩
     · cases k <;> cases k' <;> first | exact absurd rfl hne | (show _ ≠ _; omega) | (dsimp only; omega)
 · obtain ⟨rst, L, A, q, r, rfl, rfl, rfl, hok, rfl⟩ := gLiveA_some hr
   refine ⟨by show 2 ≤ 5; decide, S, _, _, 2, _, hr, fun E => ⟨E, rfl, fun w hw => hw, fun b j hh => hh, fun E' hu => ⟨E', fun k => k, hu, rfl, fun k z hk => ?_, fun k k' x x' hne _ _ _ _ => hne⟩⟩⟩
   dsimp only at hk
   refine ⟨?_, .inr ⟨z, hk, rfl, rfl, rfl, fun h => h⟩⟩
   rcases two_get hk with ⟨rfl, rfl⟩ | ⟨rfl, rfl⟩ | ⟨h, _, _⟩
   · trivial
   · trivial
   · rcases lvH_get h with ⟨rfl, rfl⟩ | ⟨rfl, rfl⟩ | ⟨rfl, rfl⟩ <;> trivial
end
end Go.Proofs.YtjemfkoamfnofaaGreat
