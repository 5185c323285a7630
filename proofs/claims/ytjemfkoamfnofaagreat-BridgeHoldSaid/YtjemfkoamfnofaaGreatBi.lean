import Derived.Test.YtjemfkoamfnofaaGreatBp
import Derived.Test.YtjemfkoamfnofaaGreatJoin
set_option linter.unusedVariables false
set_option maxRecDepth 100000
namespace Go.Proofs.YtjemfkoamfnofaaGreat
open Go Go.RowKit
noncomputable def psK (S : Stat) : List (Nat × ReadFn) := auto psE S 115 :: auto psE S 149 :: psE S
theorem psK_ok (S : Stat) : ReadsOk S [] (psK S) := .auto psE_ok <| .auto psE_ok <| psE_ok S
def pPort (g : Port → Int) : PureFn := fun args => match args with
 | [.rcd (.port p)] => some (.v (.int .i64 (g p)))
 | _ => none
theorem pPort_ok {S : Stat} {c : Ctx} (hc : CtxFull Tryz.prog c ∧ c.S = S.free ∧ c.win = [] ∧ ∀ q st, c.loop q st = none) {f : FuncId} {fn : Func} (hf : Tryz.prog.funcs[f]? = some fn) (hn : (fn.name == "runtime.NumGoroutine") = false) {g : Port → Int} {fuel : Nat}
   (h : ∀ p, joinAll (inline c fuel fn [.rcd (.port p)] [] 0) = some (.v (.int .i64 (g p)))) : PureOk S f (pPort g) := by
 intro args y hy
 unfold pPort at hy
 split at hy
 · injection hy with hy; subst hy
   exact pure_join hc hf hn rfl (h _) rfl
 · cases hy
def tellsM (m : Msg) : Bool := m.kind == 0 || m.kind == 2 && m.role == 4
def betterM (p : Port) : Bool := decide (cmpV (noRx p.msg.vec) (noRx p.vec) < 0)
def classI (p : Port) : Int :=
 if (tellsM p.msg && fourI p.msg.vec p.vec == 0 && decide (p.msg.times = p.times)) = true then 1 else if (tellsM p.msg && supV p.msg.vec p.vec) = true then 0 else if tellsM p.msg = true then 2
 else if (p.msg.kind == 2 && decide (p.msg.role ≥ 1) && decide (p.msg.role ≤ 3) && !betterM p) = true then 3 else 4
theorem infoClass (S : Stat) : PureOk S 121 (pPort classI) := pPort_ok (rdCtx_ok psK_ok S.free) Tryz.func121 (by kernel_rfl) (fuel := 20) (fun p => by kernel_rfl)
noncomputable def psN (S : Stat) : List (Nat × ReadFn) := auto psE S 148 :: psK S
theorem psN_ok (S : Stat) : ReadsOk S [] (psN S) := .auto psE_ok <| psK_ok S
noncomputable def cI0 (S : Stat) : Ctx := mkCtx S [] (psN S) [] 20 4
theorem cI0_fam : Fam cI0 := fam_of psN_ok (fun S f g h => by cases h)
noncomputable def tabCtxR (c : Ctx) (ps : List (Nat × ReadFn)) (base n : Nat) : Ctx :=
 { c with read := fun f args H nx => (match args with | [.rcd _] => lookP ps f args H nx | _ => none), spec := fun f args H nx => bif Nat.ble base f then tabGo c.spec f args H nx base n else c.spec f args H nx, loop := fun _ _ => none }
theorem tabCtxR_full {c : Ctx} (hc : CtxFull Tryz.prog c) {ps : List (Nat × ReadFn)} (hp : ∀ f g, (f, g) ∈ ps → ReadOk c.S c.win f g) (base n : Nat) : CtxFull Tryz.prog (tabCtxR c ps base n) := by
 refine { small := hc.small, mixed := hc.mixed, tys := hc.tys, eqb := hc.eqb, flds := hc.flds, read := ?_, spec := ?_, make := hc.make, tail := fun n ops l st r st' hr hs w0 M Q tl a w E sat hK => hc.tail n ops l st r st' hr hs w0 M Q tl a w E ⟨sat.slots, sat.hs, sat.own, sat.fr, sat.win, sat.winb, sat.size, sat.defers⟩ fun E' a' w' hu hle s => hK E' a' w' hu hle ⟨s.slots, s.hs, s.own, s.fr, s.win, s.winb, s.size, s.defers⟩ }
 · intro f args H nx y ks cd h hcd
   unfold tabCtxR at h
   dsimp only at h
   split at h
   · obtain ⟨g, hg, hy⟩ := lookP_mem h
     exact hp f g hg _ H nx y ks cd hy hcd
   · cases h
 · intro f args H nx v H' nx' h
   refine hc.spec f args H nx v H' nx' ?_
   have h' : (bif Nat.ble base f then tabGo c.spec f args H nx base n else c.spec f args H nx).sel = some (v, H', nx') := h
   cases hb : Nat.ble base f with
   | true => rw [hb] at h'; exact tabGo_sel h'
   | false => rw [hb] at h'; exact h'
noncomputable def hearT (S : Stat) : Ctx := tabCtxR (cI0 S) [(121, pureR (pPort classI))] 116 5
theorem hearT_full (S : Stat) : CtxFull Tryz.prog (hearT S) := tabCtxR_full (cI0_fam.full S) (by
 intro f g h
 rw [cI0_fam.S, cI0_fam.win]
 rcases List.mem_cons.1 h with h | h
 · injection h with h1 h2; subst h1 h2; exact (infoClass S).read []
 · cases h) _ _
noncomputable def hearS (S : Stat) : SpecFn := inl (hearT S) 20 92
theorem hearS_ok (S : Stat) : SpecOk S [] 92 (hearS S) := inl_ok (hearT_full S) (cI0_fam.S S) (cI0_fam.win S) (fun _ _ => rfl) Tryz.func92 (by kernel_rfl)
noncomputable def cI (S : Stat) : Ctx := mkCtx S [] (psN S) [(92, hearS S)] 20 4
theorem cI_fam : Fam cI := fam_of psN_ok (fun S f g h => by
 rcases List.mem_cons.1 h with h | h
 · injection h with h1 h2; subst h1 h2; exact hearS_ok S
 · cases h)
def betV (a b : Vec) : Bool := decide (cmpV (noRx a) (noRx b) < 0)
def againP (p : Port) (is st : Int) : Port := { p with is_ := is, states := { p.states with info := st }, flags := { p.flags with reselect := true, selected := false } }
def disableP (p : Port) : Port := againP { p with flags := { p.flags with rcvdMsg := false, proposing := false, proposed := false, agree := false, agreed := false }, clocks := { p.clocks with rcvdInfo := 0 } } 0 0
def ageP (p : Port) : Port := againP p 1 1
def updAgreed (p : Port) : Bool := (p.flags.agreed && p.is_ == 2) && !betV p.vec p.designated
def updateP (p : Port) : Port := { p with
 flags := { p.flags with proposing := false, proposed := false, agreed := updAgreed p, synced := p.flags.synced && updAgreed p, updtInfo := false, newInfo := true },
 vec := p.designated, times := p.desTimes, is_ := 2, states := { p.states with info := 2 } }
def propM (m : Msg) : Bool := (m.kind == 2 && tellsM m) && m.proposal
def proposalP (p : Port) : Port := { p with flags := { p.flags with proposed := p.flags.proposed || propM p.msg } }
def changesP (p : Port) : Port := { p with flags := { p.flags with rcvdTc := p.flags.rcvdTc || p.msg.change, rcvdTcAck := p.flags.rcvdTcAck || p.msg.ack } }
def agrees (rst : Bool) (p : Port) : Bool := ((rst && !p.shared) && p.msg.kind == 2) && p.msg.agreement
def agreementP (rst : Bool) (p : Port) : Port := { p with flags := { p.flags with agreed := agrees rst p, proposing := p.flags.proposing && !(agrees rst p) } }
def waitsI (t : Times) : Int := if decide (IntKind.i64.wrap (t.age + 1) > t.max) = true then 0 else IntKind.i64.wrap (3 * t.hello)
def supA (p : Port) : Port := changesP (proposalP { p with flags := { p.flags with agreed := false, proposing := false } })
def supB (p : Port) : Port := { p with flags := { p.flags with agree := (p.flags.agree && p.is_ == 3) && !betV p.vec p.msg.vec } }
def supC (p : Port) : Port := { p with flags := { p.flags with synced := p.flags.synced && p.flags.agreed }, vec := p.msg.vec, times := p.msg.times, clocks := { p.clocks with rcvdInfo := waitsI p.msg.times } }
def superiorP (rst : Bool) (p : Port) : Port := againP (supC (agreementP rst (supB (supA p)))) 3 2
def repeatedP (rst : Bool) (p : Port) : Port := let q := agreementP rst (changesP (proposalP p)); { q with clocks := { q.clocks with rcvdInfo := waitsI p.msg.times } }
def inferiorP (p : Port) : Port := { p with flags := { p.flags with disputed := true, agreed := false } }
def notDesP (rst : Bool) (p : Port) : Port := changesP (agreementP rst p)
def otherP (p : Port) : Port := { p with flags := { p.flags with rcvdTcn := p.flags.rcvdTcn || p.msg.kind == 1 } }
def heardP (p : Port) : Port := { p with flags := { p.flags with rcvdMsg := false } }
def isK (p : Port) (k : Nat) : Bool := Nat.beq (Nat.add (classI p).toNat 116) k
def inTab (p : Port) : Bool := decide (0 ≤ classI p) && decide (classI p < ((5 : Nat) : Int))
def toldP (p : Port) : Bool := p.flags.selected && p.flags.updtInfo
def infoT (rst : Bool) (p : Port) : Out (Port × Bool) :=
 .ite (!p.enabled && p.is_ != 0) (.ret (disableP p, true)) (.ite (p.states.info == 0 && p.flags.rcvdMsg) (.ret (disableP p, true)) (.ite (p.states.info == 0 && p.enabled) (.ret (ageP p, true))
   (.ite (p.states.info == 1 && toldP p) (.ret (updateP p, true)) (.ite (p.states.info == 2 && toldP p) (.ret (updateP p, true)) (.ite (p.states.info != 2 || p.flags.updtInfo) (.ret (p, false))
   (.ite (p.is_ == 3 && p.clocks.rcvdInfo == 0 && !p.flags.rcvdMsg) (.ret (ageP p, true)) (.ite p.flags.rcvdMsg
     (.ite (inTab p) (.ite (isK p 116) (.ret (heardP (superiorP rst p), true)) (.ite (isK p 117) (.ret (heardP (repeatedP rst p), true)) (.ite (isK p 118) (.ite (p.msg.kind == 2 && p.msg.learning) (.ret (heardP (inferiorP p), true)) (.ret (heardP p, true)))
       (.ite (isK p 119) (.ret (heardP (notDesP rst p), true)) (.ite (isK p 120) (.ret (heardP (otherP p), true)) .bad))))) .bad)
     (.ret (p, false)))))))))
def stepOut (b : Bri) (a r : List Port) (n : Nat) (q : Bool) (x : Port × Bool) : Out (SV × Heap × Nat) := .ret (.kb x.2, focH b a r x.1 n q, 2)
theorem info_run (S : Stat) (b : Bri) (a r : List Port) (k : Int) (p : Port) (n : Nat) (q : Bool) : trimF 2 (inline (cI (S.wt k)) 20 (fnOf 50) [.ptr 0 0, .ix 0] (focH b a r p n q) 2) =
   .ite (decide (0 ≤ k) && decide (k < n)) ((infoT b.rst p).bind (stepOut b a r n q)) .bad := by kernel_rfl
theorem classI_cases (p : Port) : classI p = 0 ∨ classI p = 1 ∨ classI p = 2 ∨ classI p = 3 ∨ classI p = 4 := by
 unfold classI
 repeat' split
 all_goals simp
theorem inTab_true (p : Port) : inTab p = true := by
 unfold inTab
 rcases classI_cases p with h | h | h | h | h <;> rw [h] <;> rfl
def hearP (rst : Bool) (p : Port) : Port :=
 if classI p = 0 then superiorP rst p else if classI p = 1 then repeatedP rst p else if classI p = 2 then (if (p.msg.kind == 2 && p.msg.learning) = true then inferiorP p else p) else if classI p = 3 then notDesP rst p else otherP p
def infoF (b : Bri) (p : Port) : Port × Bool :=
 if (!p.enabled && p.is_ != 0) = true then (disableP p, true) else if (p.states.info == 0 && p.flags.rcvdMsg) = true then (disableP p, true) else if (p.states.info == 0 && p.enabled) = true then (ageP p, true)
 else if (p.states.info == 1 && toldP p) = true then (updateP p, true) else if (p.states.info == 2 && toldP p) = true then (updateP p, true) else if (p.states.info != 2 || p.flags.updtInfo) = true then (p, false)
 else if (p.is_ == 3 && p.clocks.rcvdInfo == 0 && !p.flags.rcvdMsg) = true then (ageP p, true) else if p.flags.rcvdMsg = true then (heardP (hearP b.rst p), true) else (p, false)
theorem infoT_sel (b : Bri) (p : Port) : (infoT b.rst p).sel = some (infoF b p) := by
 unfold infoT infoF
 simp only [Out.sel, inTab_true, if_true]
 have hh : (if isK p 116 = true then some (heardP (superiorP b.rst p), true) else if isK p 117 = true then some (heardP (repeatedP b.rst p), true) else if isK p 118 = true then (if (p.msg.kind == 2 && p.msg.learning) = true then some (heardP (inferiorP p), true) else some (heardP p, true))
     else if isK p 119 = true then some (heardP (notDesP b.rst p), true) else if isK p 120 = true then some (heardP (otherP p), true) else none) = some (heardP (hearP b.rst p), true) := by
   unfold hearP isK
   rcases classI_cases p with h | h | h | h | h <;> rw [h] <;> simp
   split <;> rfl
 rw [hh]
 repeat' split
 all_goals rfl
theorem info_ok : CanonOk 50 (gPort infoF) := portStep_ok cI_fam Tryz.func50 (by kernel_rfl) (fuel := 20) (by
 intro S b a r k p n q h0 h1
 refine ⟨.kb (infoF b p).2, ?_, fun _ _ => rfl⟩
 rw [info_run]
 simp only [Out.sel, h0, h1, decide_true, Bool.and_self, if_true, Out.sel_bind, infoT_sel, Option.bind_some]
 rfl)
end Go.Proofs.YtjemfkoamfnofaaGreat
