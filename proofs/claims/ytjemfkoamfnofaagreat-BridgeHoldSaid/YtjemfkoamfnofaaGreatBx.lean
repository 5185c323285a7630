import Derived.Test.YtjemfkoamfnofaaGreatBm
set_option linter.unusedVariables false
set_option maxRecDepth 100000
namespace Go.Proofs.YtjemfkoamfnofaaGreat
open Go Go.RowKit
def ixSt (fk : Nat) (q : IdxP) (i : SV) : St := ⟨[(0, [], .slr 0 q.ps.length 0 q.q), (1, [], .fn (.func fk) [] []), (7, [], .v (.int .i64 q.ps.length)), (8, [], i)], [(0, .rows (.port q.ps))], 1⟩
def ixYes (fk : Nat) (q : IdxP) (i : SV) : St := ⟨[(0, [], .slr 0 q.ps.length 0 q.q), (1, [], .fn (.func fk) [] []), (4, [], i), (7, [], .v (.int .i64 q.ps.length)), (8, [], i)], [(0, .rows (.port q.ps))], 1⟩
def ixRound (fk : Nat) (ask : Port → Bool) (q : IdxP) (i : Nat) : Out (Ex × St) :=
   .ite (decide ((i : Int) < q.ps.length)) (.ite (decide (0 ≤ (i : Int)) && decide ((i : Int) < q.ps.length)) (.ite (decide (i < q.ps.length))
     (.ite (ask (q.ps.getD i Port.dflt)) (.ret (.ret, ixYes fk q (.v (.int .i64 i))))
       (.ret (.nrm, ixSt fk q (.v (.int .i64 (IntKind.i64.wrap (i + 1))))))) .bad) .bad)
     (.ret (.exit 0, ixSt fk q (.v (.int .i64 i))))
noncomputable def gIxL (fk : Nat) (ask : Port → Bool) : LoopFn := onTrim 1 [0, 1, 7, 8] fun st => match st with
 | ⟨[(0, [], .slr 0 n 0 q), (1, [], .fn (.func fk') [] []), (7, [], .v (.int .i64 n')), (8, [], .ki .i64 0)], [(0, .rows (.port ps))], _⟩ =>
   bif Nat.beq fk' fk then some (.ite (decide (n = ps.length ∧ n' = ps.length ∧ ps.length < 9223372036854775808)) (.ite (ps.any ask) (.ret (.ret, idxHit (.v (.int .i64 (findI ask ps 0))))) (.ret (.exit 0, ⟨[], [], 1⟩))) .bad) else none
 | _ => none
theorem ix_run0 (ask : Port → Bool) : ∀ (l : List Port) (i : Nat), runL (fun i p _ => if ask p = true then Step.out .ret (idxHit (.v (.int .i64 (i : Int)))) else .go ()) (fun _ => (Ex.exit 0, (⟨[], [], 1⟩ : St))) l i () =
   if l.any ask = true then (.ret, idxHit (.v (.int .i64 (findI ask l i)))) else (.exit 0, ⟨[], [], 1⟩)
 | [], i => by simp [runL]
 | p :: r, i => by
   rw [runL, findI]
   cases h : ask p with
   | true => simp [h]
   | false => simp [h, ix_run0 ask r (i + 1)]
section
variable {mk : Stat → Ctx} (hm : Fam mk) {fk : Nat} {ask : Port → Bool}
 (hround : ∀ (S : Stat) (q : IdxP) (i : Nat), trimO [0, 1, 4, 7, 8] 1 (exec (mk (S.rd 0 1)) (fnOf 42).ntmps 20 (lpOf 42 0) (ixSt fk q (.v (.int .i64 i)))) = ixRound fk ask q i)
include hm hround
theorem gIxL_ok (S : Stat) (ls : List (Nat × LoopFn)) : LoopOk Tryz.prog (withLoops (mk (S.rd 0 1)) ls) (fnOf 42).ntmps (lpOf 42 0) (gIxL fk ask) := by
 refine loop_trim hm (nx := 1) (fuel := 20) (ts := [0, 1, 4, 7, 8]) (π := IdxP) (τ := Unit) (S.rd 0 1) (fun _ i => S.rd 0 1) (fun _ _ => rfl) (fun q => q.ps) (fun q i x => ixSt fk q (.v (.int .i64 i))) (fun q i x => q.ps.length < 9223372036854775808)
   (fun q i p _ => if ask p = true then .out .ret (idxHit (.v (.int .i64 (i : Int)))) else .go ()) (fun q x => (.exit 0, ⟨[], [], 1⟩)) (fun _ _ _ => rfl) ?_ ?_ ?_
 · intro st o r ho hr
   split at ho
   · rename_i fk' n' ps nx
     cases hk : Nat.beq fk' fk with
     | false => rw [hk] at ho; cases ho
     | true =>
       rw [hk] at ho
       injection ho with ho
       subst ho
       obtain rfl := Nat.eq_of_beq_eq_true hk
       have hh := Out.ite_bad hr
       obtain ⟨rfl, rfl, hlt⟩ := of_decide_eq_true hh.1
       have h2 := hh.2
       refine ⟨⟨ps, _⟩, (), hlt, ?_, ?_, fun E => ⟨⟨⟨_, rfl, rfl⟩, ⟨_, rfl, rfl⟩, ⟨_, rfl, rfl⟩, ⟨_, rfl, rfl⟩, trivial⟩, ⟨⟨_, rfl, rfl, trivial⟩, trivial⟩⟩⟩
       · rw [ix_run0]
         simp only [Out.sel] at h2
         split at h2 <;> simp_all
       · simp only [Out.sel] at h2
         split at h2 <;> cases h2 <;> exact Nat.le_refl _
   · cases ho
 · intro q i p x hp hinv
   have hi := (List.getElem?_eq_some_iff.1 hp).1
   have hg : q.ps.getD i Port.dflt = p := by simp [List.getD, hp]
   rw [hround]
   unfold ixRound
   rw [hg]
   cases hb : ask p with
   | true =>
     exact ⟨.ret, ixYes fk q (.v (.int .i64 i)), by simp [Out.sel, hi], rfl, by simp, fun E => ⟨⟨⟨_, rfl, rfl⟩, trivial⟩, trivial⟩⟩
   | false =>
     refine ⟨_, ixSt fk q (.v (.int .i64 (IntKind.i64.wrap (i + 1)))), ?_, rfl, hinv, fun E => ?_⟩
     · simp [Out.sel, hi]
     · rw [wrap_succ hi hinv]
       exact ⟨⟨⟨_, rfl, rfl⟩, ⟨_, rfl, rfl⟩, ⟨_, rfl, rfl⟩, ⟨_, rfl, rfl⟩, trivial⟩, ⟨⟨_, rfl, rfl, trivial⟩, trivial⟩⟩
 · intro q x hinv
   rw [hround]
   exact ⟨.exit 0, ixSt fk q (.v (.int .i64 q.ps.length)), by simp [ixRound, Out.sel], rfl, by simp, fun E => ⟨trivial, trivial⟩⟩
def gIx (fk : Nat) (ask : Port → Bool) : CanonFn := fun ro args H m => match args, H.get 0 with
 | [.slr 0 n 0 q, .fn (.func fk') [] []], some (.rows (.port ps)) => bif Nat.beq fk' fk then .ite (decide (n = ps.length ∧ ps.length < 9223372036854775808)) (.ret (.v (.int .i64 (findI ask ps 0)), H, m)) .bad else .bad
 | _, _ => .bad
theorem ix_ok (hrun : ∀ (S : Stat) (ps : List Port) (q : Bool), valF 1 (inline (withLoops (mk (S.rd 0 1)) [(2, gIxL fk ask)]) 20 (fnOf 42) [.slr 0 ps.length 0 q, .fn (.func fk) [] []] [(0, .rows (.port ps))] 1) =
   .ite (decide (ps.length = ps.length ∧ (ps.length : Int) = ps.length ∧ ps.length < 9223372036854775808)) (.ite (ps.any ask) (.ret (.v (.int .i64 (findI ask ps 0)))) (.ret (.ki .i64 (-1)))) .bad) : CanonOk 42 (gIx fk ask) := by
 refine canon_rd hm Tryz.func42 (by kernel_rfl) [(2, gIxL fk ask)] (by kernel_rfl) rfl 1 (fun S i k g hg => ?_) ?_
 · match i, hg with
   | 0, hg => obtain ⟨rfl, rfl⟩ := Prod.mk.inj (Option.some.inj hg); exact gIxL_ok hm hround _ _
 intro S args H m r hr
 unfold gIx at hr
 split at hr
 · rename_i n q fk' ps hH
   cases hk : Nat.beq fk' fk with
   | false => rw [hk] at hr; cases hr
   | true =>
     rw [hk] at hr
     obtain rfl := Nat.eq_of_beq_eq_true hk
     have hh := Out.ite_bad hr
     obtain ⟨rfl, hlt⟩ := of_decide_eq_true hh.1
     obtain rfl := Option.some.inj hh.2
     refine ⟨rfl, rfl, fun E => ?_⟩
     have hs := congrArg Out.sel (hrun S ps q)
     simp only [Out.sel, hlt, and_self, decide_true, if_true] at hs
     cases ha : ps.any ask with
     | true =>
       rw [ha] at hs
       exact ⟨S, 20, [.slr 0 ps.length 0 q, .fn (.func fk') [] []], [(0, .rows (.port ps))], _, rfl, hs, dens_cons rfl (dens_cons rfl (dens_nil _ _ _ _)), ⟨⟨_, hH, rfl, trivial⟩, trivial⟩, rfl⟩
     | false =>
       rw [ha] at hs
       refine ⟨S, 20, [.slr 0 ps.length 0 q, .fn (.func fk') [] []], [(0, .rows (.port ps))], _, rfl, hs, dens_cons rfl (dens_cons rfl (dens_nil _ _ _ _)), ⟨⟨_, hH, rfl, trivial⟩, trivial⟩, ?_⟩
       simp only [SV.den]
       rw [findI_none ha]
 · cases hr
end
def unsyncedB (p : Port) : Bool := !p.flags.selected || p.role != p.selected || p.role != 3 && !p.flags.synced
noncomputable def psY0 (S : Stat) : List (Nat × ReadFn) := auto ps0 S 157 :: []
theorem psY0_ok (S : Stat) : ReadsOk S [] (psY0 S) := .auto ps0_ok <| .nil S []
noncomputable def cY0 (S : Stat) : Ctx := mkCtx S [] (psY0 S) [] 20 6
theorem cY0_fam : Fam cY0 := fam_of (ss := fun _ => []) psY0_ok (fun S f g h => by cases h)
theorem unsynced_ok : CanonOk 42 (gIx 157 unsyncedB) := ix_ok cY0_fam (fun S q i => by kernel_rfl) (fun S ps q => by kernel_rfl)
noncomputable def psY1 (S : Stat) : List (Nat × ReadFn) := (42, specRead (spc (gIx 157 unsyncedB)) S 3) :: []
theorem psY1_ok (S : Stat) : ReadsOk S [] (psY1 S) := .cons (specRead_ok (fun S' => spc_ok unsynced_ok S') 3) <| .nil S []
structure BkP where
 b : Bri
 ps : List Port
 q : Bool
 k : Int
noncomputable def cR0 (S : Stat) : Ctx := mkCtx S [] [] [] 20 6
theorem cR0_fam : Fam cR0 := fam_of (ps := fun _ => []) (ss := fun _ => []) (fun S => .nil S []) (fun S f g h => by cases h)
def lately (k : Int) (i : Nat) (p : Port) : Bool := (i : Int) != k && p.clocks.rr != 0
def anyI (f : Nat → Port → Bool) : List Port → Nat → Bool
 | [], _ => false
 | p :: r, i => f i p || anyI f r (i + 1)
def reF (ps : List Port) (k : Int) : Bool := !(anyI (lately k) ps 0)
def rrSt (q : BkP) (i : SV) : St := ⟨[(1, [], .v (.int .i64 q.k)), (2, [], .ptr 1 0), (8, [], .v (.int .i64 q.ps.length)), (9, [], i)], [(1, q.b.sv (.slr 0 q.ps.length 0 q.q) (.sl 0) (.sl 1)), (0, .rows (.port q.ps))], 2⟩
def rrNo (q : BkP) (i : SV) : St := ⟨[(1, [], .v (.int .i64 q.k)), (2, [], .ptr 1 0), (4, [], .kb false), (8, [], .v (.int .i64 q.ps.length)), (9, [], i)], [(1, q.b.sv (.slr 0 q.ps.length 0 q.q) (.sl 0) (.sl 1)), (0, .rows (.port q.ps))], 2⟩
def rrOut : St := ⟨[(4, [], .kb false)], [], 2⟩
theorem rr_round (S : Stat) (q : BkP) (i : Nat) : trimO [1, 2, 4, 8, 9] 2 (exec (cR0 (S.rd 0 1)) (fnOf 127).ntmps 20 (lpOf 127 0) (rrSt q (.v (.int .i64 i)))) =
   .ite (decide ((i : Int) < q.ps.length)) (.ite (decide (0 ≤ (i : Int)) && decide ((i : Int) < q.ps.length)) (.ite (decide (i < q.ps.length))
     (.ite (lately q.k i (q.ps.getD i Port.dflt)) (.ret (.ret, rrNo q (.v (.int .i64 i)))) (.ret (.nrm, rrSt q (.v (.int .i64 (IntKind.i64.wrap (i + 1))))))) .bad) .bad)
     (.ret (.exit 0, rrSt q (.v (.int .i64 i)))) := by kernel_rfl
def rrFin : St := ⟨[], [], 2⟩
noncomputable def gRrL : LoopFn := onTrim 2 [1, 2, 8, 9] fun st => match st with
 | ⟨[(1, [], .v (.int .i64 k)), (2, [], .ptr 1 0), (8, [], .v (.int .i64 n')), (9, [], .ki .i64 0)], [(1, bx), (0, .rows (.port ps))], _⟩ =>
   (match unBri bx with
   | some (b, .slr 0 n 0 qq, .sl 0, .sl 1) => some (.ite (decide (n = ps.length ∧ n' = ps.length ∧ ps.length < 9223372036854775808)) (.ite (anyI (lately k) ps 0) (.ret (.ret, rrOut)) (.ret (.exit 0, rrFin))) .bad)
   | _ => none)
 | _ => none
theorem rr_run0 (k : Int) : ∀ (l : List Port) (i : Nat), runL (fun i p (_ : Unit) => if lately k i p = true then Step.out .ret rrOut else .go ()) (fun _ => (Ex.exit 0, rrFin)) l i () = if anyI (lately k) l i = true then (.ret, rrOut) else (.exit 0, rrFin)
 | [], i => by simp [runL, anyI]
 | p :: r, i => by
   rw [runL, anyI]
   cases h : lately k i p with
   | true => simp
   | false => simp [rr_run0 k r (i + 1)]
theorem gRrL_ok (S : Stat) (ls : List (Nat × LoopFn)) : LoopOk Tryz.prog (withLoops (cR0 (S.rd 0 1)) ls) (fnOf 127).ntmps (lpOf 127 0) gRrL := by
 refine loop_trim cR0_fam (nx := 2) (fuel := 20) (ts := [1, 2, 4, 8, 9]) (π := BkP) (τ := Unit) (S.rd 0 1) (fun _ i => S.rd 0 1) (fun _ _ => rfl) (fun q => q.ps) (fun q i x => rrSt q (.v (.int .i64 i))) (fun q i x => q.ps.length < 9223372036854775808)
   (fun q i p x => if lately q.k i p = true then .out .ret rrOut else .go ()) (fun q x => (.exit 0, rrFin)) (fun _ _ _ => rfl) ?_ ?_ ?_
 · intro st o r ho hr
   split at ho
   · split at ho
     · rename_i hb
       injection ho with ho
       subst ho
       obtain ⟨rfl, _, _⟩ := unBri_ok hb
       have hh := Out.ite_bad hr
       obtain ⟨rfl, rfl, hlt⟩ := of_decide_eq_true hh.1
       have h2 := hh.2
       refine ⟨⟨_, _, _, _⟩, (), hlt, ?_, ?_, fun E => ⟨⟨⟨_, rfl, rfl⟩, ⟨_, rfl, rfl⟩, ⟨_, rfl, rfl⟩, ⟨_, rfl, rfl⟩, trivial⟩, ⟨⟨_, rfl, rfl, trivial⟩, ⟨_, rfl, rfl, trivial⟩, trivial⟩⟩⟩
       · rw [rr_run0]
         simp only [Out.sel] at h2
         split at h2 <;> simp_all
       · simp only [Out.sel] at h2
         split at h2 <;> cases h2 <;> exact Nat.le_refl _
     · cases ho
   · cases ho
 · intro q i p x hp hinv
   have hi := (List.getElem?_eq_some_iff.1 hp).1
   have hg : q.ps.getD i Port.dflt = p := by simp [List.getD, hp]
   rw [rr_round, hg]
   cases hb : lately q.k i p with
   | true =>
     refine ⟨_, rrNo q (.v (.int .i64 i)), ?_, rfl, by simp, fun E => ⟨⟨⟨_, rfl, rfl⟩, trivial⟩, trivial⟩⟩
     simp [Out.sel, hi]
   | false =>
     refine ⟨_, rrSt q (.v (.int .i64 (IntKind.i64.wrap (i + 1)))), ?_, rfl, hinv, fun E => ?_⟩
     · simp [Out.sel, hi]
     · rw [wrap_succ hi hinv]
       exact ⟨⟨⟨_, rfl, rfl⟩, ⟨_, rfl, rfl⟩, ⟨_, rfl, rfl⟩, ⟨_, rfl, rfl⟩, trivial⟩, ⟨⟨_, rfl, rfl, trivial⟩, ⟨_, rfl, rfl, trivial⟩, trivial⟩⟩
 · intro q x hinv
   rw [rr_round]
   exact ⟨.exit 0, rrSt q (.v (.int .i64 q.ps.length)), by simp [Out.sel], rfl, by simp, fun E => ⟨trivial, trivial⟩⟩
def gRr : CanonFn := fun ro args H m => match args, H.get 0 with
 | [bx, .v (.int .i64 k)], some (.rows (.port ps)) => (match unBri bx with
   | some (b, .slr 0 n 0 _, _, _) => .ite (decide (n = ps.length ∧ ps.length < 9223372036854775808)) (.ret (.v (.bool (reF ps k)), H, m)) .bad
   | _ => .bad)
 | _, _ => .bad
theorem rr_run (S : Stat) (b : Bri) (ps : List Port) (qq : Bool) (k : Int) : valF 1 (inline (withLoops (cR0 (S.rd 0 1)) [(2, gRrL)]) 20 (fnOf 127) [b.sv (.slr 0 ps.length 0 qq) (.sl 0) (.sl 1), .v (.int .i64 k)] [(0, .rows (.port ps))] 1) =
   .ite (decide (ps.length = ps.length ∧ (ps.length : Int) = ps.length ∧ ps.length < 9223372036854775808)) (.ite (anyI (lately k) ps 0) (.ret (.kb false)) (.ret (.kb true))) .bad := by kernel_rfl
theorem rr_ok : CanonOk 127 gRr := by
 refine canon_rd cR0_fam Tryz.func127 (by kernel_rfl) [(2, gRrL)] (by kernel_rfl) rfl 1 (fun S i k g hg => ?_) ?_
 · match i, hg with
   | 0, hg => obtain ⟨rfl, rfl⟩ := Prod.mk.inj (Option.some.inj hg); exact gRrL_ok _ _
 intro S args H m r hr
 unfold gRr at hr
 split at hr
 · rename_i bx k ps hH
   split at hr
   · rename_i b n qq o f hb
     obtain ⟨rfl, ho, hf⟩ := unBri_ok hb
     have hh := Out.ite_bad hr
     obtain ⟨rfl, hlt⟩ := of_decide_eq_true hh.1
     obtain rfl := Option.some.inj hh.2
     refine ⟨rfl, rfl, fun E => ?_⟩
     obtain ⟨l, hl⟩ := Bri.sv_named (S := S) (E := E) (b := b) (p := .slr 0 ps.length 0 qq) ho hf
     have hs := congrArg Out.sel (rr_run (S.names l) b ps qq k)
     simp only [Out.sel, hlt, and_self, decide_true, if_true] at hs
     refine ⟨S.names l, 20, [b.sv (.slr 0 ps.length 0 qq) (.sl 0) (.sl 1), .v (.int .i64 k)], [(0, .rows (.port ps))], .kb (reF ps k), rfl, ?_, dens_cons (hl ((S.names l).rd 0 1) rfl rfl).1 (dens_cons rfl (dens_nil _ _ _ _)), ⟨⟨_, hH, rfl, trivial⟩, trivial⟩, rfl⟩
     rw [hs]
     unfold reF
     cases anyI (lately k) ps 0 <;> rfl
   · cases hr
 · cases hr
end Go.Proofs.YtjemfkoamfnofaaGreat
