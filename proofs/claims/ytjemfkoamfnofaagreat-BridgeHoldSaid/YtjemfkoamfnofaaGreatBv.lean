import Derived.Test.YtjemfkoamfnofaaGreatBrg
set_option linter.unusedVariables false
set_option maxRecDepth 100000
namespace Go.Proofs.YtjemfkoamfnofaaGreat
open Go Go.RowKit
def cmpI (x y : Int) : Int := if x < y then -1 else if x > y then 1 else 0
def pCompare (k : IntKind) : PureFn := fun args => match args with
 | [.v (.int k1 x), .v (.int k2 y)] => bif k1 == k && k2 == k then some (.v (.int .i64 (cmpI x y))) else none
 | _ => none
def cmpTree (x y : Int) : Out (SV × Heap × Nat) :=
 .ite (x != x) (.ite (y != y) (.ret (.ki .i64 0, [], 0)) (.ret (.ki .i64 (-1), [], 0)))
   (.ite (y != y) (.ret (.ki .i64 1, [], 0)) (.ite (decide (x < y)) (.ret (.ki .i64 (-1), [], 0)) (.ite (decide (x > y)) (.ret (.ki .i64 1, [], 0)) (.ret (.ki .i64 0, [], 0)))))
theorem cmpTree_sel (x y : Int) : (cmpTree x y).sel = some (.ki .i64 (cmpI x y), [], 0) := by
 unfold cmpTree cmpI
 simp only [Out.sel, bne_self_eq_false, Bool.false_eq_true, if_false, decide_eq_true_eq]
 split
 · rfl
 · split <;> rfl
section
variable (S : Stat)
noncomputable def c0 (k : Nat) : Ctx := mkCtx S [] [] [] 20 k
theorem c0_full (k : Nat) : CtxFull Tryz.prog (c0 S k) := mk_full S [] [] [] 20 (fun _ _ h => by cases h) (fun _ _ h => by cases h) k
theorem pCompare_ok {k : IntKind} {f : FuncId} {fn : Func} (hf : Tryz.prog.funcs[f]? = some fn) (hn : (fn.name == "runtime.NumGoroutine") = false)
   (h : ∀ x y, inline (c0 S 3) 20 fn [.v (.int k x), .v (.int k y)] [] 0 = cmpTree x y) : PureOk S f (pCompare k) := by
 intro args y hy
 unfold pCompare at hy
 split at hy
 · rename_i k1 x k2 z
   cases hb : (k1 == k && k2 == k) with
   | false => rw [hb] at hy; cases hy
   | true =>
     rw [hb] at hy
     simp only [Bool.and_eq_true, beq_iff_eq] at hb
     obtain ⟨rfl, rfl⟩ := hb
     injection hy with hy
     subst hy
     exact pure_of (y' := .ki .i64 (cmpI x z)) (c0_full S 3) rfl rfl (mkCtx_loop _ _ _ _ _ _) hf hn rfl (by rw [h]; exact cmpTree_sel x z) (fun E => rfl) rfl
 · cases hy
end
theorem compare64 (S : Stat) : PureOk S 143 (pCompare .u64) := pCompare_ok S Tryz.func143 (by kernel_rfl) (fun x y => by kernel_rfl)
theorem compare32 (S : Stat) : PureOk S 144 (pCompare .u32) := pCompare_ok S Tryz.func144 (by kernel_rfl) (fun x y => by kernel_rfl)
theorem compare16 (S : Stat) : PureOk S 142 (pCompare .u16) := pCompare_ok S Tryz.func142 (by kernel_rfl) (fun x y => by kernel_rfl)
noncomputable def psA : List (Nat × ReadFn) := [(143, pureR (pCompare .u64)), (144, pureR (pCompare .u32)), (142, pureR (pCompare .u16))]
theorem psA_ok (S : Stat) : ∀ f g, (f, g) ∈ psA → ReadOk S [] f g := by
 intro f g h
 simp only [psA, List.mem_cons, Prod.mk.injEq, List.not_mem_nil, or_false] at h
 rcases h with ⟨rfl, rfl⟩ | ⟨rfl, rfl⟩ | ⟨rfl, rfl⟩
 · exact (compare64 S).read []
 · exact (compare32 S).read []
 · exact (compare16 S).read []
noncomputable def cA (S : Stat) : Ctx := mkCtx S [] psA [] 20 6
theorem cA_full (S : Stat) : CtxFull Tryz.prog (cA S) ∧ (cA S).S = S ∧ (cA S).win = [] ∧ ∀ q st, (cA S).loop q st = none := ⟨mk_full S [] psA [] 20 (psA_ok S) (fun _ _ h => by cases h) 6, mkCtx_S .., mkCtx_win .., mkCtx_loop _ _ _ _ _ _⟩
def Stat.free (S : Stat) : Stat := { S with ro := fun _ => false }
theorem pure_join {S : Stat} {c : Ctx} (hc : CtxFull Tryz.prog c ∧ c.S = S.free ∧ c.win = [] ∧ ∀ q st, c.loop q st = none) {fuel : Nat} {f : FuncId} {fn : Func} (hf : Tryz.prog.funcs[f]? = some fn) (hname : (fn.name == "runtime.NumGoroutine") = false)
   {args : List SV} {y : SV} (hargs : SV.kalls (fun _ => false) args = true) (h : joinAll (inline c fuel fn args [] 0) = some y) (hk : y.kall (fun _ => false) = true) :
   FnIn Tryz.prog f ∧ ∀ E w, Calls Tryz.prog f (SV.dens S E args).toArray w fun e w' => e = .returned (y.den S E) ∧ Fr w w' (fun _ _ => False) := by
 obtain ⟨⟨v, H', nx'⟩, hr, hd⟩ := joinAll_sel h
 have := pure_of hc.1 hc.2.1 hc.2.2.1 hc.2.2.2 hf hname hargs hr (fun E => hd S.free E) hk
 refine ⟨this.1, fun E w => ?_⟩
 have h2 := this.2 E w
 rw [SV.dens_stat (S := S.free) (S' := S) rfl rfl, SV.den_stat (S := S.free) (S' := S) rfl rfl] at h2
 exact h2
def fourI (a b : Vec) : Int := if a.root ≠ b.root then cmpI a.root b.root else if a.cost ≠ b.cost then cmpI a.cost b.cost else if a.bridge ≠ b.bridge then cmpI a.bridge b.bridge else cmpI a.port b.port
def cmpV (a b : Vec) : Int := if fourI a b ≠ 0 then fourI a b else cmpI a.rx b.rx
theorem cmpI_zero {x y : Int} : cmpI x y = 0 ↔ x = y := by unfold cmpI; split <;> (try split) <;> omega
def pTwo (k : IntKind) (g : Vec → Vec → Int) : PureFn := fun args => match args with
 | [.rcd (.vec a), .rcd (.vec b)] => some (.v (.int k (g a b)))
 | _ => none
def pTwoB (g : Vec → Vec → Bool) : PureFn := fun args => match args with
 | [.rcd (.vec a), .rcd (.vec b)] => some (.v (.bool (g a b)))
 | _ => none
theorem pTwo_ok {S : Stat} {c : Ctx} (hc : CtxFull Tryz.prog c ∧ c.S = S.free ∧ c.win = [] ∧ ∀ q st, c.loop q st = none) {f : FuncId} {fn : Func} (hf : Tryz.prog.funcs[f]? = some fn) (hn : (fn.name == "runtime.NumGoroutine") = false) {k : IntKind} {g g' : Vec → Vec → Int} {fuel : Nat}
   (h : ∀ a b, joinAll (inline c fuel fn [.rcd (.vec a), .rcd (.vec b)] [] 0) = some (.v (.int k (g' a b)))) (hg : ∀ a b, g' a b = g a b) : PureOk S f (pTwo k g) := by
 intro args y hy
 unfold pTwo at hy
 split at hy
 · injection hy with hy; subst hy
   rw [← hg]
   exact pure_join hc hf hn rfl (h _ _) rfl
 · cases hy
theorem pTwoB_ok {S : Stat} {c : Ctx} (hc : CtxFull Tryz.prog c ∧ c.S = S.free ∧ c.win = [] ∧ ∀ q st, c.loop q st = none) {f : FuncId} {fn : Func} (hf : Tryz.prog.funcs[f]? = some fn) (hn : (fn.name == "runtime.NumGoroutine") = false) {g g' : Vec → Vec → Bool} {fuel : Nat}
   (h : ∀ a b, joinAll (inline c fuel fn [.rcd (.vec a), .rcd (.vec b)] [] 0) = some (.v (.bool (g' a b)))) (hg : ∀ a b, g' a b = g a b) : PureOk S f (pTwoB g) := by
 intro args y hy
 unfold pTwoB at hy
 split at hy
 · injection hy with hy; subst hy
   rw [← hg]
   exact pure_join hc hf hn rfl (h _ _) rfl
 · cases hy
theorem vecFour (S : Stat) : PureOk S 78 (pTwo .i64 fourI) := pTwo_ok (cA_full S.free) Tryz.func78 (by kernel_rfl)
 (g' := fun a b => if (cmpI a.root b.root != 0) = true then cmpI a.root b.root else if (cmpI a.cost b.cost != 0) = true then cmpI a.cost b.cost else if (cmpI a.bridge b.bridge != 0) = true then cmpI a.bridge b.bridge else if (cmpI a.port b.port != 0) = true then cmpI a.port b.port else 0)
 (fuel := 20) (fun a b => by kernel_rfl) (fun a b => by
   unfold fourI
   simp only [bne_iff_ne, ne_eq, cmpI_zero]
   repeat' split
   all_goals first | rfl | (rename_i h; exact (cmpI_zero.2 (Classical.not_not.1 h)).symm) | (rename_i h; exact (cmpI_zero.2 h).symm) | simp_all)
noncomputable def psA' (_ : Stat) : List (Nat × ReadFn) := psA
theorem psA'_ok (S : Stat) : ReadsOk S [] (psA' S) := psA_ok S
noncomputable def psB (S : Stat) : List (Nat × ReadFn) := (78, pureR (pTwo .i64 fourI)) :: auto psA' S 108 :: auto psA' S 107 :: auto psA' S 76 :: auto psA' S 156 :: psA
theorem psB_ok (S : Stat) : ReadsOk S [] (psB S) := .pure (vecFour S) <| .auto psA'_ok <| .auto psA'_ok <| .auto psA'_ok <| .auto psA'_ok <| psA_ok S
theorem vecCmp (S : Stat) : PureOk S 77 (pTwo .i64 cmpV) := pTwo_ok (rdCtx_ok psB_ok S.free) Tryz.func77 (by kernel_rfl)
 (g' := fun a b => if (fourI a b != 0) = true then fourI a b else if ((if (cmpI a.rx b.rx != 0) = true then cmpI a.rx b.rx else 0) != 0) = true then if (cmpI a.rx b.rx != 0) = true then cmpI a.rx b.rx else 0 else 0)
 (fuel := 20) (fun a b => by kernel_rfl) (fun a b => by
   unfold cmpV
   by_cases h : fourI a b = 0 <;> by_cases h2 : cmpI a.rx b.rx = 0 <;> simp [h, h2])
noncomputable def psC (S : Stat) : List (Nat × ReadFn) := (77, pureR (pTwo .i64 cmpV)) :: psB S
theorem psC_ok (S : Stat) : ReadsOk S [] (psC S) := .pure (vecCmp S) <| psB_ok S
def addrI (x : Int) : Int := IntKind.u64.wrap ↑(BitVec.ofInt IntKind.u64.bits x &&& BitVec.ofInt IntKind.u64.bits 281474976710655).toNat
def numI (x : Int) : Int := IntKind.u16.wrap ↑(BitVec.ofInt IntKind.u16.bits x &&& BitVec.ofInt IntKind.u16.bits 4095).toNat
def supV (m p : Vec) : Bool := (addrI m.bridge == addrI p.bridge && numI m.port == numI p.port) || decide (fourI m p < 0)
theorem vecSup (S : Stat) : PureOk S 150 (pTwoB supV) := pTwoB_ok (rdCtx_ok psC_ok S.free) Tryz.func150 (by kernel_rfl) (g' := supV) (fuel := 20) (fun a b => by kernel_rfl) (fun a b => rfl)
def thrCost (x y : Int) : Int := IntKind.u32.wrap (if 4294967295 < IntKind.u64.wrap (IntKind.u64.wrap x + IntKind.u64.wrap y) then 4294967295 else IntKind.u64.wrap (IntKind.u64.wrap x + IntKind.u64.wrap y))
def thrV (a : Vec) (x y : Int) : Vec := ⟨a.root, thrCost a.cost x, a.bridge, a.port, y⟩
def pThr : PureFn := fun args => match args with
 | [.rcd (.vec a), .v (.int .u32 x), .v (.int .u16 y)] => some (.rcd (.vec (thrV a x y)))
 | _ => none
theorem pThr_ok {S : Stat} {c : Ctx} (hc : CtxFull Tryz.prog c ∧ c.S = S.free ∧ c.win = [] ∧ ∀ q st, c.loop q st = none) {f : FuncId} {fn : Func} (hf : Tryz.prog.funcs[f]? = some fn) (hn : (fn.name == "runtime.NumGoroutine") = false) {fuel : Nat} {g : Vec → Int → Int → Vec}
   (h : ∀ a x y, joinAll (inline c fuel fn [.rcd (.vec a), .v (.int .u32 x), .v (.int .u16 y)] [] 0) = some (.rcd (.vec (g a x y)))) (hg : ∀ a x y, g a x y = thrV a x y) : PureOk S f pThr := by
 intro args y hy
 unfold pThr at hy
 split at hy
 · injection hy with hy; subst hy
   rw [← hg]
   exact pure_join hc hf hn rfl (h _ _ _) rfl
 · cases hy
theorem vecThr (S : Stat) : PureOk S 57 pThr := pThr_ok (rdCtx_ok psC_ok S.free) Tryz.func57 (by kernel_rfl) (fuel := 20) (g := thrV) (fun a x y => by kernel_rfl) (fun a x y => rfl)
noncomputable def psE (S : Stat) : List (Nat × ReadFn) := auto psC S 58 :: auto psC S 59 :: (150, pureR (pTwoB supV)) :: (57, pureR pThr) :: auto psC S 22 :: psC S
theorem psE_ok (S : Stat) : ReadsOk S [] (psE S) := .auto psC_ok <| .auto psC_ok <| .pure (vecSup S) <| .pure (vecThr S) <| .auto psC_ok <| psC_ok S
end Go.Proofs.YtjemfkoamfnofaaGreat
