import Derived.Test.YtjemfkoamfnofaaGreatPa
set_option linter.unusedVariables false
set_option maxRecDepth 100000
namespace Go.Proofs.YtjemfkoamfnofaaGreat
section
section
open Go Go.RowKit
def proj2 (p : Port) : Port := { p with
 clocks := { p.clocks with tc := 0, hello := 0, txCount := 0 },
 states := { p.states with topo := 0 },
 flags := { p.flags with newInfo := false, tcProp := false, flush := false, rcvdTc := false, rcvdTcn := false, rcvdTcAck := false, tcAck := false } }
def view2 (s : BS) : Bri × List Port := (s.b, s.ps.map proj2)
def own2 : Op → Prop
 | .sel => False
 | .m i _ => i = 2 ∨ i = 4 ∨ i = 5
theorem anyI_map {f : Nat → Port → Bool} {g : Port → Port} (h : ∀ i p, f i (g p) = f i p) : ∀ (l : List Port) (i : Nat), anyI f (l.map g) i = anyI f l i
 | [], i => rfl
 | p :: r, i => by
   simp only [List.map_cons, anyI]
   rw [h, anyI_map h r]
theorem allSynced_map {g : Port → Port} (h : ∀ p, unsyncedB (g p) = unsyncedB p) (l : List Port) : allSynced (l.map g) = allSynced l := by
 unfold allSynced
 rw [findI_any, findI_any, any_map1 h]
theorem reF_map {g : Port → Port} (h : ∀ k i p, lately k i (g p) = lately k i p) (l : List Port) (k : Int) : reF (l.map g) k = reF l k := by
 unfold reF
 rw [anyI_map (h k)]
theorem states_any2 (e : Nat) (b : Bri) (ps : List Port) (k : Int) (p : Port) : (statesL e b (ps.map proj2) k (proj2 p)).any (·.1) = (statesL e b ps k p).any (·.1) := by
 have h1 := allSynced_map (g := proj2) (fun _ => rfl) ps
 have h2 := reF_map (g := proj2) (fun _ _ _ => rfl) ps k
 match e with
 | 0 | 1 | 3 | 4 => rfl
 | 2 =>
   have h3 : onRoot b (ps.map proj2) k (proj2 p) = onRoot b ps k p := by unfold onRoot; rw [h2]; rfl
   simp only [statesL, trRootL, setsL, List.any_append, List.any_cons, List.any_nil]
   rw [h1, h3]; rfl
 | 5 =>
   simp only [statesL, altL, setsL, List.any_append, List.any_cons, List.any_nil]
   rw [h1]; rfl
 | n + 6 => rfl
theorem trFire2 (b : Bri) (ps : List Port) (k : Int) (p : Port) : trFire b (ps.map proj2) k (proj2 p) = trFire b ps k p := by
 unfold trFire
 rw [show stE (proj2 p) = stE p from rfl, states_any2]
 rfl
theorem trFire_of {b : Bri} {ps ps' : List Port} {k : Int} {p p' : Port} (h : ps.map proj2 = ps'.map proj2) (hp : proj2 p = proj2 p') : trFire b ps k p = trFire b ps' k p' := by
 rw [← trFire2 b ps, h, hp, trFire2]
theorem own1_2 {s s' : BS} {o : Op} {n : Nat} (ho : o ∈ ops n) (how : own1 o) (hv : view1 s = view1 s') : (stp o s).2 = (stp o s').2 := by
 have hb : s.b = s'.b := congrArg Prod.fst hv
 have hp : s.ps.map proj1 = s'.ps.map proj1 := congrArg Prod.snd hv
 have hat : ∀ k, proj1 (ptAt s k) = proj1 (ptAt s' k) := fun k => map_at hp k
 rcases ops_cases ho with rfl | ⟨k, hk, rfl | rfl | rfl | rfl | rfl | rfl | rfl | rfl⟩
 · rw [stp_sel, stp_sel, ← any_map1 askP1, hp, any_map1 askP1]
 · rw [stp_rx, stp_rx, ← rxFire1, hat, rxFire1]
 · rw [stp_mig, stp_mig, ← migFire1, hat, migFire1, hb]
 · rcases how with h | h | h <;> omega
 · rw [stp_info, stp_info, ← infoFire1, hat, infoFire1]
 all_goals (rcases how with h | h | h <;> omega)
theorem own2_d {s s' : BS} {o : Op} {n : Nat} (ho : o ∈ ops n) (how : own2 o) (hv : view2 s = view2 s') : (stp o s).2 = (stp o s').2 := by
 have hb : s.b = s'.b := congrArg Prod.fst hv
 have hp : s.ps.map proj2 = s'.ps.map proj2 := congrArg Prod.snd hv
 have hat : ∀ k, proj2 (ptAt s k) = proj2 (ptAt s' k) := fun k => map_at hp k
 rcases ops_cases ho with rfl | ⟨k, hk, rfl | rfl | rfl | rfl | rfl | rfl | rfl | rfl⟩
 · exact how.elim
 · rcases how with h | h | h <;> omega
 · rcases how with h | h | h <;> omega
 · rw [stp_edge, stp_edge]; exact (congrArg edgeFire (hat k) : edgeFire (proj2 (ptAt s k)) = edgeFire (proj2 (ptAt s' k)))
 · rcases how with h | h | h <;> omega
 · rw [stp_trans, stp_trans, hb]; exact trFire_of hp (hat k)
 · rw [stp_pass, stp_pass]; exact (congrArg passFire (hat k) : passFire (proj2 (ptAt s k)) = passFire (proj2 (ptAt s' k)))
 · rcases how with h | h | h <;> omega
 · rcases how with h | h | h <;> omega
theorem high_keep2 {n : Nat} {s : BS} (hn : s.ps.length = n) {k : Nat} (hk : k < n) {i : Nat} (hi : i = 6 ∨ i = 7) : (mach i s k).1.ps.map proj2 = s.ps.map proj2 := by
 have hkn : k < s.ps.length := by rw [hn]; exact hk
 rcases hi with rfl | rfl
 · exact topo_map hkn (toT_keep rfl rfl rfl (fun _ => rfl) (fun _ => rfl) rfl rfl) (fun _ => rfl) (fun _ => rfl) (fun _ => rfl)
 · exact tx_map hkn (fun _ => rfl) (fun _ _ => rfl)
def lfB (stop l f : Bool) : Nat := if stop = true then (if (l || f) = true then 1 else 0) else if l = true then (if f = true then 0 else 1) else 2
def paB (p0 p1 p2 l f : Bool) : Nat := if p0 = true then (if l = true then (if f = true then 2 else 1) else 0) else if p1 = true then (if l = true then (if f = true then 1 else 0) else 1) else if p2 = true then (if f = true then 0 else if l = true then 2 else 1) else 0
def s3B (proposing synced rrz disputed sync reRoot l f : Bool) : Nat := bn (!proposing) 1 + bn (!synced) 7 + bn (!rrz) 7 + bn disputed 9 + bn sync 1 + bn reRoot 1 + 3 * lfB ((sync && !synced) || (reRoot && !rrz)) l f
def s2B (l f reRoot rrd : Bool) : Nat := bn (!f && !reRoot) 22 + bn (!l) 3 + bn (!f) 3 + bn reRoot 1 + bn rrd 1
def ed2 (p : Port) : Nat := if (p.enabled || p.admin) = true then (if p.states.edge = 0 then (if p.flags.operEdge = true then 0 else 2) else if p.states.edge = 1 then 1 else 0) else (if p.states.edge = 0 then 1 else 0)
def pa2 (p : Port) : Nat := paB (p.states.pass == 0) (p.states.pass == 1) (p.states.pass == 2) p.flags.learn p.flags.forward
def zB : Bri := ⟨0, false, lawT, 0, ⟨0, 0, 0, 0, 0⟩, 0, lawT⟩
def chA (p : Port) : Bool := (rolesL zB p).any (·.1)
def stV (b : Bri) (p : Port) : Nat → Nat
 | 0 => 3
 | 1 => bn (restless p b.times.max) 1
 | 2 => s2B p.flags.learn p.flags.forward p.flags.reRoot (p.clocks.rr != b.times.delay)
 | 3 => s3B p.flags.proposing p.flags.synced (p.clocks.rr == 0) p.flags.disputed p.flags.sync p.flags.reRoot p.flags.learn p.flags.forward
 | 4 => 3
 | 5 => bn (restless p (fwdI b p)) 1 + bn (p.role == 2 && p.clocks.rb != IntKind.i64.wrap (2 * b.times.hello)) 1
 | _ => 0
def st2 (b : Bri) (p : Port) : Nat := stV b p (stE p)
def phi2 (b : Bri) (p : Port) : Nat := ed2 p + (if chA p = true then 34 else st2 b p) + bn p.flags.proposed 22 + bn (!p.flags.agree) 1 + pa2 p
theorem phi2_dep (b : Bri) (p : Port) : phi2 b (proj2 p) = phi2 b p := rfl
theorem s3_le : ∀ a b c d e f g h : Bool, s3B a b c d e f g h ≤ 32 := by decide
theorem s2_le : ∀ a b c d : Bool, s2B a b c d ≤ 30 := by decide
theorem pa_le : ∀ a b c d e : Bool, paB a b c d e ≤ 2 := by decide
theorem st2_le (b : Bri) (p : Port) : st2 b p ≤ 32 := by
 unfold st2 stV
 split
 · decide
 · exact Nat.le_trans (bn_le _ _) (by decide)
 · exact Nat.le_trans (s2_le _ _ _ _) (by decide)
 · exact s3_le _ _ _ _ _ _ _ _
 · decide
 · have := bn_le (restless p (fwdI b p)) 1
   have := bn_le (p.role == 2 && p.clocks.rb != IntKind.i64.wrap (2 * b.times.hello)) 1
   omega
 · decide
theorem ed2_le (p : Port) : ed2 p ≤ 2 := by unfold ed2; repeat' split
                                            all_goals omega
theorem phi2_le (b : Bri) (p : Port) : phi2 b p ≤ 61 := by
 have h1 := ed2_le p
 have h2 := st2_le b p
 have h3 := bn_le p.flags.proposed 22
 have h4 := bn_le (!p.flags.agree) 1
 have h5 : pa2 p ≤ 2 := pa_le _ _ _ _ _
 unfold phi2
 split <;> omega
theorem s3_sync : ∀ a b c d e f g h : Bool, s3B a b c d true f g h ≤ s3B a b c d e f g h + 4 := by decide
theorem s3_rr : ∀ a b c d e f g h : Bool, s3B a b c d e true g h ≤ s3B a b c d e f g h + 4 := by decide
theorem s2_rr : ∀ a b c d : Bool, s2B a b true d ≤ s2B a b c d + 1 := by decide
theorem phi2_of {b : Bri} {p q : Port} {c : Nat} (h1 : ed2 q = ed2 p) (h2 : chA q = chA p) (h3 : q.flags.proposed = p.flags.proposed) (h4 : q.flags.agree = p.flags.agree) (h5 : pa2 q = pa2 p) (h6 : st2 b q ≤ st2 b p + c) : phi2 b q ≤ phi2 b p + c := by
 unfold phi2
 rw [h1, h2, h3, h4, h5]
 split <;> omega
theorem st2_sync (b : Bri) (i : Nat) (p : Port) : st2 b (syU i p) ≤ st2 b p + 4 := by
 unfold st2 stV
 rw [show stE (syU i p) = stE p from rfl]
 split
 · omega
 · have := bn_le (restless (syU i p) b.times.max) 1; omega
 · exact Nat.le_add_right _ _
 · exact s3_sync _ _ _ _ _ _ _ _
 · omega
 · have := bn_le (restless (syU i p) (fwdI b (syU i p))) 1
   show bn _ 1 + bn (p.role == 2 && p.clocks.rb != IntKind.i64.wrap (2 * b.times.hello)) 1 ≤ _
   omega
 · omega
theorem st2_rr (b : Bri) (i : Nat) (p : Port) : st2 b (rrU i p) ≤ st2 b p + 4 := by
 unfold st2 stV
 rw [show stE (rrU i p) = stE p from rfl]
 split
 · omega
 · have := bn_le (restless (rrU i p) b.times.max) 1; omega
 · have := s2_rr p.flags.learn p.flags.forward p.flags.reRoot (p.clocks.rr != b.times.delay)
   exact Nat.le_trans this (by omega)
 · exact s3_rr _ _ _ _ _ _ _ _
 · omega
 · have := bn_le (restless (rrU i p) (fwdI b (rrU i p))) 1
   show bn _ 1 + bn (p.role == 2 && p.clocks.rb != IntKind.i64.wrap (2 * b.times.hello)) 1 ≤ _
   omega
 · omega
theorem phi2_sync (b : Bri) (i : Nat) (p : Port) : phi2 b (syU i p) ≤ phi2 b p + 4 := phi2_of rfl rfl rfl rfl rfl (st2_sync b i p)
theorem phi2_rr (b : Bri) (i : Nat) (p : Port) : phi2 b (rrU i p) ≤ phi2 b p + 4 := phi2_of rfl rfl rfl rfl rfl (st2_rr b i p)
theorem sumP_bc_at {w : Port → Nat} {f : Nat → Port → Port} {c d : Nat} (h : ∀ i p, w (f i p) ≤ w p + c) : ∀ (l : List Port) (i k : Nat), k < l.length → w (f (i + k) (l.getD k Port.dflt)) + d ≤ w (l.getD k Port.dflt) → sumP w (mapI f l i) + d ≤ sumP w l + c * l.length
 | [], i, k, hk, _ => absurd hk (Nat.not_lt_zero _)
 | p :: r, i, 0, _, hd => by
   have h2 := sumP_bc w f c h r (i + 1)
   simp only [List.getD_cons_zero, Nat.add_zero] at hd
   simp only [mapI, sumP, List.length_cons, Nat.mul_succ]
   omega
 | p :: r, i, k + 1, hk, hd => by
   have h1 := h i p
   have h2 := sumP_bc_at h r (i + 1) k (by simpa using hk) (by rw [show i + 1 + k = i + (k + 1) from by omega]; simpa using hd)
   simp only [mapI, sumP, List.length_cons, Nat.mul_succ]
   omega
theorem sumP_bc_at2 {w : Port → Nat} {f : Nat → Port → Port} {c d : Nat} (h : ∀ i p, w (f i p) ≤ w p + c) : ∀ (l : List Port) (i k : Nat), k < l.length → w (f (i + k) (l.getD k Port.dflt)) + d ≤ w (l.getD k Port.dflt) + c → sumP w (mapI f l i) + d ≤ sumP w l + c * l.length
 | [], i, k, hk, _ => absurd hk (Nat.not_lt_zero _)
 | p :: r, i, 0, _, hd => by
   have h2 := sumP_bc w f c h r (i + 1)
   simp only [List.getD_cons_zero, Nat.add_zero] at hd
   simp only [mapI, sumP, List.length_cons, Nat.mul_succ]
   omega
 | p :: r, i, k + 1, hk, hd => by
   have h1 := h i p
   have h2 := sumP_bc_at2 h r (i + 1) k (by simpa using hk) (by rw [show i + 1 + k = i + (k + 1) from by omega]; simpa using hd)
   simp only [mapI, sumP, List.length_cons, Nat.mul_succ]
   omega
end
section
open Go Go.RowKit
theorem pa_none : ∀ a b c : Bool, paB a b c false false ≤ 1 := by decide
theorem s2_learn : ∀ p0 p1 p2 f rr rd : Bool, s2B true f rr rd + paB p0 p1 p2 true f < s2B false f rr rd + paB p0 p1 p2 false f := by decide
theorem s2_fwd : ∀ p0 p1 p2 l rr rd : Bool, s2B l true rr rd + paB p0 p1 p2 l true < s2B l false rr rd + paB p0 p1 p2 l false := by decide
theorem s2_done : ∀ l rd : Bool, s2B l true false rd < s2B l true true rd := by decide
theorem s2_rrd : ∀ l f rr : Bool, s2B l f rr false < s2B l f rr true := by decide
theorem s2_own : ∀ l rd : Bool, s2B l false true rd + 21 ≤ s2B l false false rd := by decide
theorem s3_prop : ∀ b c d e f g h : Bool, s3B true b c d e f g h < s3B false b c d e f g h := by decide
theorem s3_row2 : ∀ a b c d e f g h x : Bool, ((!b && x) || (b && e)) = true → s3B a true true d false f g h < s3B a b c d e f g h := by decide
theorem s3_row3 : ∀ a b d e g h : Bool, s3B a b true d e false g h < s3B a b true d e true g h := by decide
theorem s3_row4 : ∀ a b c d e f g h p0 p1 p2 : Bool, (g || h) = true → ((e && !b) || (f && !c) || d) = true → s3B a b c false e f false false + paB p0 p1 p2 false false < s3B a b c d e f g h + paB p0 p1 p2 g h := by decide +kernel
theorem s3_row5 : ∀ a b c d e f h p0 p1 p2 : Bool, (!f || c) = true → e = false → s3B a b c d e f true h + paB p0 p1 p2 true h < s3B a b c d e f false h + paB p0 p1 p2 false h := by decide +kernel
theorem s3_row6 : ∀ a b c d e f p0 p1 p2 : Bool, (!f || c) = true → e = false → s3B a b c d e f true true + paB p0 p1 p2 true true < s3B a b c d e f true false + paB p0 p1 p2 true false := by decide +kernel
def Dec2 (b : Bri) (p : Port) : TrR → Prop
 | .no => False
 | .one q => phi2 b q < phi2 b p
 | .oneT q => phi2 b q < phi2 b p
 | .syncs => p.flags.proposed = true
 | .reRoots => phi2 b (rrU 0 p) + 21 ≤ phi2 b p
theorem dec2_of {b : Bri} {p q : Port} (ha : chA p = false) (h1 : ed2 q = ed2 p) (h2 : chA q = chA p) (h3 : st2 b q + bn q.flags.proposed 22 + bn (!q.flags.agree) 1 + pa2 q < st2 b p + bn p.flags.proposed 22 + bn (!p.flags.agree) 1 + pa2 p) : phi2 b q < phi2 b p := by
 unfold phi2
 rw [h1, h2, ha]
 simp only [Bool.false_eq_true, if_false]
 omega
theorem dec2_st {b : Bri} {p q : Port} (ha : chA p = false) (h1 : ed2 q = ed2 p) (h2 : chA q = chA p) (h3 : q.flags.proposed = p.flags.proposed) (h4 : q.flags.agree = p.flags.agree) (h5 : st2 b q + pa2 q < st2 b p + pa2 p) : phi2 b q < phi2 b p := by
 refine dec2_of ha h1 h2 ?_
 rw [h3, h4]
 omega
theorem roles_dec (b : Bri) (p : Port) : ∀ x, (true, x) ∈ rolesL b p → Dec2 b p x := by
 intro x hx
 have hA : chA p = true := by
   show (rolesL b p).any (·.1) = true
   exact List.any_eq_true.2 ⟨_, hx, rfl⟩
 have key : ∀ q : Port, ed2 q = ed2 p → q.flags.proposed = p.flags.proposed → q.flags.agree = p.flags.agree → chA q = false → st2 b q + pa2 q ≤ 33 + pa2 p → phi2 b q < phi2 b p := by
   intro q e1 e2 e3 e4 e5
   unfold phi2
   rw [e1, e2, e3, e4, hA]
   simp only [Bool.false_eq_true, if_false, if_true]
   omega
 have hsame : ∀ q : Port, q.role = q.selected → chA q = false := by
   intro q hq
   show (rolesL zB q).any (·.1) = false
   simp [rolesL, hq]
 simp only [rolesL, List.mem_cons, List.not_mem_nil, or_false, Prod.mk.injEq] at hx
 rcases hx with ⟨_, rfl⟩ | ⟨_, rfl⟩ | ⟨_, rfl⟩ | ⟨_, rfl⟩
 · exact key _ rfl rfl rfl (hsame _ rfl) (by
     have : pa2 (enterA p 0) ≤ 1 := pa_none _ _ _
     show 3 + pa2 (enterA p 0) ≤ _
     omega)
 · exact key _ rfl rfl rfl (hsame _ rfl) (by
     have := st2_le b (enterB b p 2)
     rw [show pa2 (enterB b p 2) = pa2 p from rfl]
     omega)
 · exact key _ rfl rfl rfl (hsame _ rfl) (by
     have := st2_le b (enterC p 3)
     rw [show pa2 (enterC p 3) = pa2 p from rfl]
     omega)
 · exact key _ rfl rfl rfl (hsame _ rfl) (by
     have : pa2 (enterA p 4) ≤ 1 := pa_none _ _ _
     show 3 + pa2 (enterA p 4) ≤ _
     omega)
theorem st_0 {b : Bri} {p : Port} (h : stE p = 0) : st2 b p = 3 := by unfold st2; rw [h]; rfl
theorem st_1 {b : Bri} {p : Port} (h : stE p = 1) : st2 b p = bn (restless p b.times.max) 1 := by unfold st2; rw [h]; rfl
theorem st_2 {b : Bri} {p : Port} (h : stE p = 2) : st2 b p = s2B p.flags.learn p.flags.forward p.flags.reRoot (p.clocks.rr != b.times.delay) := by unfold st2; rw [h]; rfl
theorem st_3 {b : Bri} {p : Port} (h : stE p = 3) : st2 b p = s3B p.flags.proposing p.flags.synced (p.clocks.rr == 0) p.flags.disputed p.flags.sync p.flags.reRoot p.flags.learn p.flags.forward := by unfold st2; rw [h]; rfl
theorem st_4 {b : Bri} {p : Port} (h : stE p = 4) : st2 b p = 3 := by unfold st2; rw [h]; rfl
theorem st_5 {b : Bri} {p : Port} (h : stE p = 5) : st2 b p = bn (restless p (fwdI b p)) 1 + bn (p.role == 2 && p.clocks.rb != IntKind.i64.wrap (2 * b.times.hello)) 1 := by unfold st2; rw [h]; rfl
theorem rest_not (p : Port) (e fd : Int) : restless (restP p e fd) fd = false := by simp [restless, restP]
theorem agrees_dec {b : Bri} {p q : Port} (ha : chA p = false) (h1 : ed2 q = ed2 p) (h2 : chA q = chA p) (h3 : q.flags.proposed = false) (h4 : q.flags.agree = true) (h5 : pa2 q = pa2 p) (h6 : st2 b q ≤ st2 b p) {x : Bool} (hc : (x && !p.flags.agree || p.flags.proposed && p.flags.agree) = true) : phi2 b q < phi2 b p := by
 refine dec2_of ha h1 h2 ?_
 rw [h3, h4, h5, bn_false (c := false) rfl, bn_false (c := !true) rfl]
 simp only [Bool.or_eq_true, Bool.and_eq_true] at hc
 rcases hc with hc | hc
 · rw [bn_true (c := !p.flags.agree) hc.2]; omega
 · rw [bn_true hc.1]; omega
theorem states_dec (b : Bri) (ps : List Port) (k : Int) (p : Port) (ha : chA p = false) : ∀ x, (true, x) ∈ statesL (stE p) b ps k p → Dec2 b p x := by
 intro x hx
 cases hE : stE p with
 | zero =>
   rw [hE] at hx
   simp only [statesL, List.mem_cons, List.not_mem_nil, or_false, Prod.mk.injEq] at hx
   obtain ⟨_, rfl⟩ := hx
   refine dec2_st ha rfl rfl rfl rfl ?_
   rw [st_0 (p := p) hE, show pa2 (restP p 1 b.times.max) = pa2 p from rfl, st_1 (p := restP p 1 b.times.max) rfl]
   rw [rest_not, bn_false rfl]
   omega
 | succ e =>
   rw [hE] at hx
   match e, hE, hx with
   | 0, hE, hx =>
     simp only [statesL, List.mem_cons, List.not_mem_nil, or_false, Prod.mk.injEq] at hx
     obtain ⟨hc, rfl⟩ := hx
     refine dec2_st ha rfl rfl rfl rfl ?_
     rw [st_1 (p := p) hE, show pa2 (restP p 1 b.times.max) = pa2 p from rfl, st_1 (p := restP p 1 b.times.max) rfl]
     rw [rest_not, bn_false rfl, ← hc, bn_true rfl]
     omega
   | 1, hE, hx =>
     simp only [statesL, trRootL, setsL, List.mem_cons, List.mem_append, List.not_mem_nil, or_false, Prod.mk.injEq] at hx
     rcases hx with (⟨hc, rfl⟩ | ⟨hc, rfl⟩) | ⟨hc, rfl⟩ | ⟨hc, rfl⟩ | ⟨hc, rfl⟩ | ⟨hc, rfl⟩ | ⟨hc, rfl⟩
     · replace hc := hc.symm
       simp only [Bool.and_eq_true] at hc
       exact hc.1
     · refine agrees_dec ha rfl rfl rfl rfl rfl ?_ hc.symm
       rw [st_2 (p := p) hE, st_2 (p := agreesR p) hE]
       exact Nat.le_refl _
     · replace hc := hc.symm
       simp only [Bool.and_eq_true, Bool.not_eq_true'] at hc
       show phi2 b (rrU 0 p) + 21 ≤ phi2 b p
       unfold phi2
       rw [show chA (rrU 0 p) = chA p from rfl, ha, show ed2 (rrU 0 p) = ed2 p from rfl, show pa2 (rrU 0 p) = pa2 p from rfl, show (rrU 0 p).flags.proposed = p.flags.proposed from rfl, show (rrU 0 p).flags.agree = p.flags.agree from rfl,
         st_2 (p := p) hE, st_2 (p := rrU 0 p) hE]
       simp only [Bool.false_eq_true, if_false]
       have h21 := s2_own p.flags.learn (p.clocks.rr != b.times.delay)
       have e1 : s2B (rrU 0 p).flags.learn (rrU 0 p).flags.forward (rrU 0 p).flags.reRoot ((rrU 0 p).clocks.rr != b.times.delay) = s2B p.flags.learn false true (p.clocks.rr != b.times.delay) := by rw [← hc.1]; rfl
       rw [e1, hc.1, hc.2]
       omega
     · replace hc := hc.symm
       simp only [Bool.and_eq_true, Bool.not_eq_true'] at hc
       refine dec2_st ha rfl rfl rfl rfl ?_
       rw [st_2 (p := p) hE, st_2 (p := learnsP b p) hE]
       have := s2_learn (p.states.pass == 0) (p.states.pass == 1) (p.states.pass == 2) p.flags.forward p.flags.reRoot (p.clocks.rr != b.times.delay)
       unfold pa2
       rw [hc.2]
       exact this
     · replace hc := hc.symm
       simp only [Bool.and_eq_true, Bool.not_eq_true'] at hc
       refine dec2_st ha rfl rfl rfl rfl ?_
       rw [st_2 (p := p) hE, st_2 (p := { p with clocks := { p.clocks with fd := 0 }, flags := { p.flags with forward := true } }) hE]
       have := s2_fwd (p.states.pass == 0) (p.states.pass == 1) (p.states.pass == 2) p.flags.learn p.flags.reRoot (p.clocks.rr != b.times.delay)
       unfold pa2
       rw [hc.2]
       exact this
     · replace hc := hc.symm
       simp only [Bool.and_eq_true] at hc
       refine dec2_st ha rfl rfl rfl rfl ?_
       rw [st_2 (p := p) hE, st_2 (p := { p with flags := { p.flags with reRoot := false } }) hE]
       have key : s2B p.flags.learn p.flags.forward false (p.clocks.rr != b.times.delay) < s2B p.flags.learn p.flags.forward p.flags.reRoot (p.clocks.rr != b.times.delay) := by rw [hc.1, hc.2]; exact s2_done _ _
       exact Nat.add_lt_add_right key _
     · refine dec2_st ha rfl rfl rfl rfl ?_
       rw [st_2 (p := p) hE, st_2 (p := { p with clocks := { p.clocks with rr := b.times.delay } }) hE]
       have key : s2B p.flags.learn p.flags.forward p.flags.reRoot (b.times.delay != b.times.delay) < s2B p.flags.learn p.flags.forward p.flags.reRoot (p.clocks.rr != b.times.delay) := by rw [← hc, show (b.times.delay != b.times.delay) = false from by simp]; exact s2_rrd _ _ _
       exact Nat.add_lt_add_right key _
   | 2, hE, hx =>
     simp only [statesL, desL, List.mem_cons, List.not_mem_nil, or_false, Prod.mk.injEq] at hx
     rcases hx with ⟨hc, rfl⟩ | ⟨hc, rfl⟩ | ⟨hc, rfl⟩ | ⟨hc, rfl⟩ | ⟨hc, rfl⟩ | ⟨hc, rfl⟩
     · replace hc := hc.symm
       simp only [Bool.and_eq_true, Bool.not_eq_true'] at hc
       refine dec2_st ha rfl rfl rfl rfl ?_
       rw [st_3 (p := p) hE, st_3 (p := { p with flags := { p.flags with proposing := true, newInfo := true }, clocks := { p.clocks with edgeDelay := edI b p } }) hE]
       have key : s3B true p.flags.synced (p.clocks.rr == 0) p.flags.disputed p.flags.sync p.flags.reRoot p.flags.learn p.flags.forward < s3B p.flags.proposing p.flags.synced (p.clocks.rr == 0) p.flags.disputed p.flags.sync p.flags.reRoot p.flags.learn p.flags.forward := by rw [hc.1.2]; exact s3_prop _ _ _ _ _ _ _
       exact Nat.add_lt_add_right key _
     · refine dec2_st ha rfl rfl rfl rfl ?_
       rw [st_3 (p := p) hE, st_3 (p := { p with clocks := { p.clocks with rr := 0 }, flags := { p.flags with synced := true, sync := false } }) hE]
       have := s3_row2 p.flags.proposing p.flags.synced (p.clocks.rr == 0) p.flags.disputed p.flags.sync p.flags.reRoot p.flags.learn p.flags.forward _ hc.symm
       exact Nat.add_lt_add_right this _
     · replace hc := hc.symm
       simp only [Bool.and_eq_true] at hc
       refine dec2_st ha rfl rfl rfl rfl ?_
       rw [st_3 (p := p) hE, st_3 (p := { p with flags := { p.flags with reRoot := false } }) hE]
       have key : s3B p.flags.proposing p.flags.synced (p.clocks.rr == 0) p.flags.disputed p.flags.sync false p.flags.learn p.flags.forward < s3B p.flags.proposing p.flags.synced (p.clocks.rr == 0) p.flags.disputed p.flags.sync p.flags.reRoot p.flags.learn p.flags.forward := by rw [hc.1, hc.2]; exact s3_row3 _ _ _ _ _ _
       exact Nat.add_lt_add_right key _
     · replace hc := hc.symm
       simp only [Bool.and_eq_true] at hc
       refine dec2_st ha rfl rfl rfl rfl ?_
       rw [st_3 (p := p) hE, st_3 (p := { p with flags := { p.flags with learn := false, forward := false, disputed := false }, clocks := { p.clocks with fd := fwdI b p } }) hE]
       exact s3_row4 p.flags.proposing p.flags.synced (p.clocks.rr == 0) p.flags.disputed p.flags.sync p.flags.reRoot p.flags.learn p.flags.forward (p.states.pass == 0) (p.states.pass == 1) (p.states.pass == 2) hc.1.1 hc.2
     · replace hc := hc.symm
       simp only [onDes, Bool.and_eq_true, Bool.not_eq_true'] at hc
       refine dec2_st ha rfl rfl rfl rfl ?_
       rw [st_3 (p := p) hE, st_3 (p := learnsP b p) hE]
       have := s3_row5 p.flags.proposing p.flags.synced (p.clocks.rr == 0) p.flags.disputed p.flags.sync p.flags.reRoot p.flags.forward (p.states.pass == 0) (p.states.pass == 1) (p.states.pass == 2) hc.1.1.2 hc.1.2
       unfold pa2
       rw [hc.2]
       exact this
     · replace hc := hc.symm
       simp only [onDes, Bool.and_eq_true, Bool.not_eq_true'] at hc
       refine dec2_st ha rfl rfl rfl rfl ?_
       rw [st_3 (p := p) hE, st_3 (p := { p with flags := { p.flags with forward := true, agreed := p.flags.sendRst }, clocks := { p.clocks with fd := 0 } }) hE]
       have := s3_row6 p.flags.proposing p.flags.synced (p.clocks.rr == 0) p.flags.disputed p.flags.sync p.flags.reRoot (p.states.pass == 0) (p.states.pass == 1) (p.states.pass == 2) hc.1.1.1.2 hc.1.1.2
       unfold pa2
       rw [hc.1.2, hc.2]
       exact this
   | 3, hE, hx =>
     simp only [statesL, List.mem_cons, List.not_mem_nil, or_false, Prod.mk.injEq] at hx
     obtain ⟨_, rfl⟩ := hx
     refine dec2_st ha rfl rfl rfl rfl ?_
     rw [st_4 (p := p) hE, show pa2 (restP p 5 (fwdI b p)) = pa2 p from rfl, st_5 (p := restP p 5 (fwdI b p)) rfl]
     rw [show fwdI b (restP p 5 (fwdI b p)) = fwdI b p from rfl, rest_not, bn_false rfl]
     have := bn_le ((restP p 5 (fwdI b p)).role == 2 && (restP p 5 (fwdI b p)).clocks.rb != IntKind.i64.wrap (2 * b.times.hello)) 1
     omega
   | 4, hE, hx =>
     simp only [statesL, altL, setsL, List.mem_cons, List.mem_append, List.not_mem_nil, or_false, Prod.mk.injEq] at hx
     rcases hx with (⟨hc, rfl⟩ | ⟨hc, rfl⟩) | ⟨hc, rfl⟩ | ⟨hc, rfl⟩
     · replace hc := hc.symm
       simp only [Bool.and_eq_true] at hc
       exact hc.1
     · refine agrees_dec ha rfl rfl rfl rfl rfl ?_ hc.symm
       rw [st_5 (p := p) hE, st_5 (p := agreesP p) hE]
       exact Nat.le_refl _
     · refine dec2_st ha rfl rfl rfl rfl ?_
       rw [st_5 (p := p) hE, st_5 (p := { p with clocks := { p.clocks with rb := IntKind.i64.wrap (2 * b.times.hello) } }) hE]
       rw [← hc, bn_true (c := true) rfl, bn_false (c := (p.role == 2 && IntKind.i64.wrap (2 * b.times.hello) != IntKind.i64.wrap (2 * b.times.hello))) (by simp)]
       show bn (restless p (fwdI b p)) 1 + 0 + pa2 p < _
       omega
     · refine dec2_st ha rfl rfl rfl rfl ?_
       rw [st_5 (p := p) hE, show pa2 (restP p 5 (fwdI b p)) = pa2 p from rfl, st_5 (p := restP p 5 (fwdI b p)) rfl]
       rw [show fwdI b (restP p 5 (fwdI b p)) = fwdI b p from rfl, rest_not, bn_false rfl, ← hc, bn_true rfl]
       show 0 + bn (p.role == 2 && p.clocks.rb != IntKind.i64.wrap (2 * b.times.hello)) 1 + pa2 p < _
       omega
   | n + 5, hE, hx => simp only [statesL, List.not_mem_nil] at hx
end
section
open Go Go.RowKit
def F2 (s : BS) : Nat := sumP (phi2 s.b) s.ps
theorem dec2_loc {n : Nat} {s : BS} {k : Nat} {F : Bri → Port → Port × Bool} (hn : s.ps.length = n) (hk : k < n) (h : phi2 s.b (F s.b (ptAt s k)).1 < phi2 s.b (ptAt s k)) : F2 (ofP F s k).1 < F2 s := by
 have hkn : k < s.ps.length := by omega
 have hs := sumP_set (phi2 s.b) s.ps k (F s.b (ptAt s k)).1 hkn
 show sumP (phi2 s.b) (s.ps.set k (F s.b (ptAt s k)).1) < sumP (phi2 s.b) s.ps
 rw [show s.ps.getD k Port.dflt = ptAt s k from rfl] at hs
 omega
theorem phi2_edge {b : Bri} {p : Port} (hr : rxFire p = false) (h : edgeFire p = true) : phi2 b ((edgeT b p).get (p, false)).1 < phi2 b p := by
 have key : ∀ e o, ed2 (edgeP p e o) < ed2 p → phi2 b (edgeP p e o) < phi2 b p := by
   intro e o hd
   unfold phi2
   rw [show chA (edgeP p e o) = chA p from rfl, show st2 b (edgeP p e o) = st2 b p from rfl, show pa2 (edgeP p e o) = pa2 p from rfl, show (edgeP p e o).flags.proposed = p.flags.proposed from rfl, show (edgeP p e o).flags.agree = p.flags.agree from rfl]
   omega
 have hed : p.enabled = false → p.clocks.edgeDelay = 3 := by
   intro he
   unfold rxFire at hr
   rw [he] at hr
   simp only [Bool.not_false, Bool.true_and, Bool.or_eq_false_iff, bne_eq_false_iff_eq] at hr
   exact hr.1.1.2
 simp only [edgeT, Out.get]
 split
 · rename_i h0
   have h0 : p.states.edge = 0 := by simpa using h0
   split
   · rename_i hl
     refine key 1 false ?_
     unfold leavesB at hl
     unfold ed2
     rw [show (edgeP p 1 false).enabled = p.enabled from rfl, show (edgeP p 1 false).admin = p.admin from rfl, show (edgeP p 1 false).states.edge = 1 from rfl, h0]
     cases h1 : p.flags.operEdge <;> cases h2 : p.enabled <;> cases h3 : p.admin <;> simp_all
   · rename_i hl
     unfold edgeFire at h
     rw [h0] at h
     simp [hl] at h
 · rename_i h0
   split
   · rename_i h1
     have h1 : p.states.edge = 1 := by simpa using h1
     split
     · rename_i hl
       refine key 0 true ?_
       unfold entersB at hl
       unfold ed2
       rw [show (edgeP p 0 true).enabled = p.enabled from rfl, show (edgeP p 0 true).admin = p.admin from rfl, show (edgeP p 0 true).states.edge = 0 from rfl, show (edgeP p 0 true).flags.operEdge = true from rfl, h1]
       cases h2 : p.enabled with
       | true => simp
       | false =>
         have := hed h2
         cases h3 : p.admin with
         | true => simp
         | false => rw [h2, h3, this] at hl; simp at hl
     · rename_i hl
       unfold edgeFire at h
       rw [h1] at h
       simp [hl] at h
   · rename_i h1
     unfold edgeFire at h
     simp [h0, h1] at h
theorem phi2_pass {b : Bri} {p : Port} (h : passFire p = true) : phi2 b ((passT b p).get (p, false)).1 < phi2 b p := by
 have key : ∀ l f e, paB (e == 0) (e == 1) (e == 2) p.flags.learn p.flags.forward < pa2 p → phi2 b (passP p l f e) < phi2 b p := by
   intro l f e hd
   unfold phi2
   rw [show chA (passP p l f e) = chA p from rfl, show st2 b (passP p l f e) = st2 b p from rfl, show ed2 (passP p l f e) = ed2 p from rfl, show pa2 (passP p l f e) = paB (e == 0) (e == 1) (e == 2) p.flags.learn p.flags.forward from rfl, show (passP p l f e).flags.proposed = p.flags.proposed from rfl, show (passP p l f e).flags.agree = p.flags.agree from rfl]
   omega
 simp only [passT, Out.get]
 split
 · rename_i hc
   simp only [Bool.and_eq_true, beq_iff_eq] at hc
   refine key _ _ 1 ?_
   unfold pa2
   rw [hc.1, hc.2]
   cases p.flags.forward <;> decide
 · rename_i n1
   split
   · rename_i hc
     simp only [Bool.and_eq_true, beq_iff_eq, Bool.not_eq_true'] at hc
     refine key _ _ 0 ?_
     unfold pa2
     rw [hc.1, hc.2]
     cases p.flags.forward <;> decide
   · rename_i n2
     split
     · rename_i hc
       simp only [Bool.and_eq_true, beq_iff_eq] at hc
       refine key _ _ 2 ?_
       unfold pa2
       rw [hc.1, hc.2]
       have : p.flags.learn = true := by rw [hc.1] at n2; simpa using n2
       rw [this]
       decide
     · rename_i n3
       split
       · rename_i hc
         simp only [Bool.and_eq_true, beq_iff_eq, Bool.not_eq_true'] at hc
         refine key _ _ 0 ?_
         unfold pa2
         rw [hc.1, hc.2]
         cases p.flags.learn <;> decide
       · rename_i n4
         unfold passFire at h
         simp only [Bool.or_eq_true] at h
         rcases h with ((h | h) | h) | h
         · exact absurd h n1
         · exact absurd h n2
         · exact absurd h n3
         · exact absurd h n4
theorem trR_dec {b : Bri} {ps : List Port} {k : Int} {p : Port} (h : trFire b ps k p = true) : Dec2 b p (trR b ps k p) := by
 unfold trFire at h
 simp only [Bool.and_eq_true, Bool.not_eq_true'] at h
 obtain ⟨⟨h1, h2⟩, h3⟩ := h
 unfold trR
 rw [h1, h2]
 simp only [Bool.not_true, Bool.or_self, Bool.false_eq_true, if_false]
 rw [pick_app]
 split
 · rename_i ha; exact pick_any ha (roles_dec b p)
 · rename_i ha
   have ha : (rolesL b p).any (·.1) = false := by simpa using ha
   rw [ha, Bool.false_or] at h3
   exact pick_any h3 (states_dec b ps k p ha)
theorem dec2_trans {n : Nat} {s : BS} {k : Nat} (h5 : n ≤ 5) (hn : s.ps.length = n) (hk : k < n) (h : trFire s.b s.ps k (ptAt s k) = true) : F2 (transM s k).1 < F2 s := by
 have hkn : k < s.ps.length := by omega
 have hd := trR_dec h
 show sumP (phi2 s.b) (transF s.b s.ps (k : Int)).1 < sumP (phi2 s.b) s.ps
 unfold transF
 rw [show ((k : Int).toNat) = k from rfl, show s.ps.getD k Port.dflt = ptAt s k from rfl]
 have hset : ∀ q, phi2 s.b q < phi2 s.b (ptAt s k) → sumP (phi2 s.b) (s.ps.set k q) < sumP (phi2 s.b) s.ps := by
   intro q hq
   have hs := sumP_set (phi2 s.b) s.ps k q hkn
   rw [show s.ps.getD k Port.dflt = ptAt s k from rfl] at hs
   omega
 cases hr : trR s.b s.ps k (ptAt s k) with
 | no => rw [hr] at hd; exact hd.elim
 | one q => rw [hr] at hd; exact hset q hd
 | oneT q => rw [hr] at hd; exact hset q hd
 | syncs =>
   rw [hr] at hd
   have hd : (ptAt s k).flags.proposed = true := hd
   show sumP (phi2 s.b) (syncsF (k : Int) s.ps) < _
   unfold syncsF
   rw [show ((k : Int).toNat) = k from rfl, show s.ps.getD k Port.dflt = ptAt s k from rfl]
   have h1 := sumP_bc (phi2 s.b) syU 4 (fun i p => phi2_sync s.b i p) s.ps 0
   have h2 := sumP_set (phi2 s.b) (mapI syU s.ps 0) k (noProp (syU 0 (ptAt s k))) (by rw [mapI_length]; exact hkn)
   rw [mapI_getD _ _ _ _ hkn, show s.ps.getD k Port.dflt = ptAt s k from rfl] at h2
   have h3 : phi2 s.b (noProp (syU 0 (ptAt s k))) + 22 = phi2 s.b (syU (0 + k) (ptAt s k)) := by
     unfold phi2
     rw [show ed2 (noProp (syU 0 (ptAt s k))) = ed2 (syU (0 + k) (ptAt s k)) from rfl, show chA (noProp (syU 0 (ptAt s k))) = chA (syU (0 + k) (ptAt s k)) from rfl, show st2 s.b (noProp (syU 0 (ptAt s k))) = st2 s.b (syU (0 + k) (ptAt s k)) from rfl,
       show pa2 (noProp (syU 0 (ptAt s k))) = pa2 (syU (0 + k) (ptAt s k)) from rfl, show (noProp (syU 0 (ptAt s k))).flags.agree = (syU (0 + k) (ptAt s k)).flags.agree from rfl,
       bn_false (c := (noProp (syU 0 (ptAt s k))).flags.proposed) rfl, bn_true (c := (syU (0 + k) (ptAt s k)).flags.proposed) hd]
     omega
   show sumP (phi2 s.b) ((mapI syU s.ps 0).set k (noProp (syU 0 (ptAt s k)))) < _
   omega
 | reRoots =>
   rw [hr] at hd
   have hd : phi2 s.b (rrU 0 (ptAt s k)) + 21 ≤ phi2 s.b (ptAt s k) := hd
   show sumP (phi2 s.b) (mapI rrU s.ps 0) < _
   have h1 := sumP_bc_at (w := phi2 s.b) (f := rrU) (c := 4) (d := 21) (fun i p => phi2_rr s.b i p) s.ps 0 k hkn hd
   omega
theorem layer2 {n : Nat} (h5 : n ≤ 5) : Layer n (Inv2 n) own1 own2 view1 view2 F2 where
 inv s o hn ho hI := hI.stp ho
 v1k s o hn ho hI how := by
   rcases ops_cases ho with rfl | ⟨k, hk, rfl | rfl | rfl | rfl | rfl | rfl | rfl | rfl⟩
   · exact absurd trivial how
   · exact absurd (.inl rfl) how
   · exact absurd (.inr (.inl rfl)) how
   · exact Prod.ext (mach_b 2 s k) (high_keep1 hI hk (by simp))
   · exact absurd (.inr (.inr rfl)) how
   · exact Prod.ext (mach_b 4 s k) (high_keep1 hI hk (by simp))
   · exact Prod.ext (mach_b 5 s k) (high_keep1 hI hk (by simp))
   · exact Prod.ext (mach_b 6 s k) (high_keep1 hI hk (by simp))
   · exact Prod.ext (mach_b 7 s k) (high_keep1 hI hk (by simp))
 v1d s s' o hn hn' ho how hv := own1_2 ho how hv
 v2k s o hn ho hI hlo how := by
   rcases ops_cases ho with rfl | ⟨k, hk, rfl | rfl | rfl | rfl | rfl | rfl | rfl | rfl⟩
   · exact absurd trivial hlo
   · exact absurd (.inl rfl) hlo
   · exact absurd (.inr (.inl rfl)) hlo
   · exact absurd (.inl rfl) how
   · exact absurd (.inr (.inr rfl)) hlo
   · exact absurd (.inr (.inl rfl)) how
   · exact absurd (.inr (.inr rfl)) how
   · exact Prod.ext (mach_b 6 s k) (high_keep2 hn hk (.inl rfl))
   · exact Prod.ext (mach_b 7 s k) (high_keep2 hn hk (.inr rfl))
 v2d s s' o hn hn' ho how hv := own2_d ho how hv
 dec s o hn ho hI hq how hf := by
   rcases ops_cases ho with rfl | ⟨k, hk, rfl | rfl | rfl | rfl | rfl | rfl | rfl | rfl⟩
   · exact how.elim
   · rcases how with h | h | h <;> omega
   · rcases how with h | h | h <;> omega
   · rw [stp_edge] at hf
     have hr := hq (.m 0 k) (ops_of (by decide) hk) (.inl rfl)
     rw [stp_rx] at hr
     exact dec2_loc hn hk (phi2_edge hr hf)
   · rcases how with h | h | h <;> omega
   · rw [stp_trans] at hf; exact dec2_trans h5 hn hk hf
   · rw [stp_pass] at hf; exact dec2_loc hn hk (phi2_pass hf)
   · rcases how with h | h | h <;> omega
   · rcases how with h | h | h <;> omega
 dep s s' hv := by
   have hb : s.b = s'.b := congrArg Prod.fst hv
   have hp : s.ps.map proj2 = s'.ps.map proj2 := congrArg Prod.snd hv
   unfold F2
   rw [hb]
   exact sumP_map (w := phi2 s'.b) (g := proj2) (fun p p' e => by rw [← phi2_dep s'.b p, e, phi2_dep]) hp
theorem F2_le {n : Nat} (h5 : n ≤ 5) {s : BS} (hn : s.ps.length = n) : F2 s ≤ 305 := by
 have h1 := sumP_le (phi2 s.b) 61 (phi2_le s.b) s.ps
 unfold F2
 omega
def proj3 (p : Port) : Port := { p with clocks := { p.clocks with hello := 0, txCount := 0 }, flags := { p.flags with newInfo := false, tcAck := false } }
def view3 (s : BS) : Bri × List Port := (s.b, s.ps.map proj3)
def own3 : Op → Prop
 | .sel => False
 | .m i _ => i = 6
def low3 (o : Op) : Prop := own1 o ∨ own2 o
def cnts (p : Port) : Bool := p.role == 3 || p.role == 4
def toFire (p : Port) : Bool := p.flags.flush || (p.states.topo == 0 && p.flags.learn) || (p.states.topo == 1 && ((cnts p && p.flags.forward && !p.flags.operEdge) || (!cnts p && !p.flags.learn && !p.flags.learning && !fourP p) || fourP p)) ||
 (p.states.topo == 2 && (!cnts p || p.flags.operEdge || p.flags.rcvdTcn || p.flags.rcvdTc || p.flags.tcProp || p.flags.rcvdTcAck))
def ToR.fires : ToR → Bool
 | .no => false
 | _ => true
theorem toX_fire (s : BS) (k : Int) (p : Port) (x : ToR) : (toX s k p x).2 = x.fires := by cases x <;> rfl
theorem beg_fires {b : Bri} {p : Port} {f : Port → ToR} (h : ∀ q, (f q).fires = true) : (begT b p f).get.fires = true := by
 simp only [begT, ToT.get]
 repeat' split
 all_goals exact h _
theorem toT_fires (b : Bri) (p : Port) : (toT b p).get.fires = toFire p := by
 unfold toFire
 simp only [toT, ToT.get]
 split
 · rename_i h; rw [h]; rfl
 · rename_i h0
   have h0 : p.flags.flush = false := by simpa using h0
   split
   · rename_i h; rw [h]; simp [ToR.fires]
   · rename_i h1
     have h1 : (p.states.topo == 0 && p.flags.learn) = false := by simpa using h1
     rw [h0, h1, Bool.false_or, Bool.false_or]
     split
     · rename_i ht
       have ht : p.states.topo = 1 := by simpa using ht
       rw [show (p.states.topo == 2) = false from by rw [ht]; rfl, show (p.states.topo == 1) = true from by rw [ht]; rfl]
       simp only [Bool.true_and, Bool.false_and, Bool.or_false]
       split
       · rename_i h2
         rw [beg_fires fun _ => rfl]
         unfold cnts
         rw [h2]; rfl
       · rename_i h2
         unfold cnts
         rw [show ((((p.role == 3 || p.role == 4) && p.flags.forward) && !p.flags.operEdge)) = false from by simpa using h2, Bool.false_or]
         split
         · rename_i h3; rw [h3]; rfl
         · rename_i h3
           rw [show (((!(p.role == 3 || p.role == 4) && !p.flags.learn) && !p.flags.learning) && !(fourP p)) = false from by simpa using h3, Bool.false_or]
           split
           · rename_i h4; rw [h4]; rfl
           · rename_i h4; rw [show fourP p = false from by simpa using h4]; rfl
     · rename_i ht
       rw [show (p.states.topo == 1) = false from by simpa using ht]
       split
       · rename_i ht2
         rw [ht2]
         simp only [Bool.false_and, Bool.false_or, Bool.true_and]
         unfold cnts
         split
         · rename_i h2; rw [h2]; rfl
         · rename_i h2
           rw [show (!(p.role == 3 || p.role == 4) || p.flags.operEdge) = false from by simpa using h2, Bool.false_or]
           split
           · rename_i h3; rw [beg_fires fun _ => rfl, h3]; rfl
           · rename_i h3
             rw [show p.flags.rcvdTcn = false from by simpa using h3, Bool.false_or]
             split
             · rename_i h4; rw [h4]; rfl
             · rename_i h4
               rw [show p.flags.rcvdTc = false from by simpa using h4, Bool.false_or]
               split
               · rename_i h5; rw [beg_fires fun _ => rfl, h5]; rfl
               · rename_i h5
                 rw [show p.flags.tcProp = false from by simpa using h5, Bool.false_or]
                 split
                 · rename_i h6; rw [h6]; rfl
                 · rename_i h6; rw [show p.flags.rcvdTcAck = false from by simpa using h6]; rfl
       · rename_i ht2
         rw [show (p.states.topo == 2) = false from by simpa using ht2]
         rfl
theorem stp_topo (s : BS) (k : Nat) : (stp (.m 6 k) s).2 = toFire (ptAt s k) := by
 show (toX s k (ptAt s k) (toT s.b (ptAt s k)).get).2 = _
 rw [toX_fire, toT_fires]
theorem view23 {s s' : BS} (h : view3 s = view3 s') : view2 s = view2 s' := by
 have hb : s.b = s'.b := congrArg Prod.fst h
 have hp : s.ps.map proj3 = s'.ps.map proj3 := congrArg Prod.snd h
 refine Prod.ext hb ?_
 have := congrArg (List.map proj2) hp
 rw [List.map_map, List.map_map, show (proj2 ∘ proj3) = proj2 from rfl] at this
 exact this
theorem view12 {s s' : BS} (h : view2 s = view2 s') : view1 s = view1 s' := by
 have hb : s.b = s'.b := congrArg Prod.fst h
 have hp : s.ps.map proj2 = s'.ps.map proj2 := congrArg Prod.snd h
 refine Prod.ext hb ?_
 have := congrArg (List.map proj1) hp
 rw [List.map_map, List.map_map, show (proj1 ∘ proj2) = proj1 from rfl] at this
 exact this
def yB (good learn : Bool) (t : Int) : Nat := if good = true then (if t = 0 then 10 else if t = 1 then 9 else 0) else if learn = true then (if t = 0 then 1 else if t = 1 then 0 else if t = 2 then 1 else 0) else (if t = 1 then 2 else if t = 2 then 3 else 0)
def goodT (p : Port) : Bool := cnts p && p.flags.forward && !p.flags.operEdge
def phi3 (p : Port) : Nat := bn p.flags.flush 1 + bn p.flags.tcProp 2 + bn p.flags.rcvdTcAck 1 + bn p.flags.rcvdTc 9 + bn p.flags.rcvdTcn 9 + yB (goodT p) p.flags.learn p.states.topo
theorem yB_le (g l : Bool) (t : Int) : yB g l t ≤ 10 := by unfold yB; repeat' split
                                                           all_goals omega
theorem phi3_le (p : Port) : phi3 p ≤ 32 := by
 have := bn_le p.flags.flush 1
 have := bn_le p.flags.tcProp 2
 have := bn_le p.flags.rcvdTcAck 1
 have := bn_le p.flags.rcvdTc 9
 have := bn_le p.flags.rcvdTcn 9
 have := yB_le (goodT p) p.flags.learn p.states.topo
 unfold phi3
 omega
theorem phi3_dep (p : Port) : phi3 (proj3 p) = phi3 p := rfl
theorem phi3_tc (p : Port) : phi3 (tcP p) ≤ phi3 p + 2 := by
 unfold phi3
 rw [show (tcP p).flags.flush = p.flags.flush from rfl, show (tcP p).flags.rcvdTcAck = p.flags.rcvdTcAck from rfl, show (tcP p).flags.rcvdTc = p.flags.rcvdTc from rfl, show (tcP p).flags.rcvdTcn = p.flags.rcvdTcn from rfl, show yB (goodT (tcP p)) (tcP p).flags.learn (tcP p).states.topo = yB (goodT p) p.flags.learn p.states.topo from rfl, bn_true (c := (tcP p).flags.tcProp) rfl]
 omega
def F3 (s : BS) : Nat := sumP phi3 s.ps
def Dec3 (p : Port) : ToR → Prop
 | .no => False
 | .one q => phi3 q < phi3 p
 | .told q => phi3 q + 9 ≤ phi3 p
 | .both q => phi3 (activeP (newsP q)) + 9 ≤ phi3 p
 | .flush => p.flags.flush = true
theorem beg_dec {b : Bri} {p : Port} {f : Port → ToR} (h : ∀ q : Port, (q = p ∨ q = begA b p ∨ q = begB b p) → Dec3 p (f q)) : Dec3 p (begT b p f).get := by
 simp only [begT, ToT.get]
 split
 · exact h _ (.inl rfl)
 · split
   · exact h _ (.inr (.inl rfl))
   · exact h _ (.inr (.inr rfl))
theorem clears_phi (p : Port) : phi3 (clearsP p) = bn p.flags.flush 1 + yB (goodT p) p.flags.learn 1 := by
 unfold phi3
 rw [bn_false (c := (clearsP p).flags.tcProp) rfl, bn_false (c := (clearsP p).flags.rcvdTcAck) rfl, bn_false (c := (clearsP p).flags.rcvdTc) rfl, bn_false (c := (clearsP p).flags.rcvdTcn) rfl]
 rfl
theorem toT_dec {b : Bri} {p : Port} (h : toFire p = true) : Dec3 p (toT b p).get := by
 have hno : (toT b p).get.fires = true := by rw [toT_fires]; exact h
 have hf := bn_le p.flags.flush 1
 have hbeg : ∀ q : Port, (q = p ∨ q = begA b p ∨ q = begB b p) → q.flags.flush = p.flags.flush ∧ q.flags.tcProp = p.flags.tcProp ∧ q.flags.rcvdTcAck = p.flags.rcvdTcAck ∧ q.flags.rcvdTc = p.flags.rcvdTc ∧ q.flags.rcvdTcn = p.flags.rcvdTcn ∧ goodT q = goodT p ∧ q.flags.learn = p.flags.learn ∧ q.states.topo = p.states.topo := by
   intro q hq
   rcases hq with rfl | rfl | rfl
   · exact ⟨rfl, rfl, rfl, rfl, rfl, rfl, rfl, rfl⟩
   · exact ⟨rfl, rfl, rfl, rfl, rfl, rfl, rfl, rfl⟩
   · exact ⟨rfl, rfl, rfl, rfl, rfl, rfl, rfl, rfl⟩
 have hnotes : ∀ q : Port, phi3 (notesP q) = bn q.flags.flush 1 + bn q.flags.tcProp 2 + bn q.flags.rcvdTcAck 1 + yB (goodT q) q.flags.learn q.states.topo := by
   intro q
   unfold phi3
   rw [bn_false (c := (notesP q).flags.rcvdTc) rfl, bn_false (c := (notesP q).flags.rcvdTcn) rfl]
   rfl
 revert hno
 simp only [toT, ToT.get]
 split
 · rename_i h0; intro _; exact h0
 · rename_i h0
   split
   · rename_i h1
     intro _
     simp only [Bool.and_eq_true, beq_iff_eq] at h1
     show phi3 (clearsP p) < phi3 p
     rw [clears_phi]
     unfold phi3 yB
     rw [h1.1, h1.2]
     cases goodT p <;> simp <;> omega
   · rename_i h1
     split
     · rename_i ht
       have ht : p.states.topo = 1 := by simpa using ht
       split
       · rename_i h2
         intro _
         have hg : goodT p = true := h2
         refine beg_dec fun q hq => ?_
         obtain ⟨e1, e2, e3, e4, e5, e6, e7, e8⟩ := hbeg q hq
         show phi3 (activeP (newsP q)) + 9 ≤ phi3 p
         unfold phi3
         rw [show (activeP (newsP q)).flags.flush = p.flags.flush from e1, show (activeP (newsP q)).flags.tcProp = p.flags.tcProp from e2, show (activeP (newsP q)).flags.rcvdTcAck = p.flags.rcvdTcAck from e3, show (activeP (newsP q)).flags.rcvdTc = p.flags.rcvdTc from e4, show (activeP (newsP q)).flags.rcvdTcn = p.flags.rcvdTcn from e5,
           show goodT (activeP (newsP q)) = goodT p from e6, hg, ht, show (activeP (newsP q)).states.topo = 2 from rfl]
         show _ + 0 + 9 ≤ _ + 9
         omega
       · rename_i h2
         have hg : goodT p = false := Bool.eq_false_iff.2 h2
         split
         · rename_i h3
           intro _
           simp only [Bool.and_eq_true, Bool.not_eq_true'] at h3
           have h4 := h3.2
           unfold fourP at h4
           simp only [Bool.or_eq_false_iff] at h4
           show phi3 (quietP p) < phi3 p
           unfold phi3
           rw [bn_true (c := (quietP p).flags.flush) rfl, show (quietP p).flags.tcProp = p.flags.tcProp from rfl, show (quietP p).flags.rcvdTcAck = p.flags.rcvdTcAck from rfl, show (quietP p).flags.rcvdTc = p.flags.rcvdTc from rfl, show (quietP p).flags.rcvdTcn = p.flags.rcvdTcn from rfl,
             show goodT (quietP p) = goodT p from rfl, show (quietP p).flags.learn = p.flags.learn from rfl, show (quietP p).states.topo = 0 from rfl, hg, ht, h3.1.1.2]
           show _ + 0 < _ + 2
           omega
         · rename_i h3
           split
           · rename_i h4
             intro _
             show phi3 (clearsP p) < phi3 p
             rw [clears_phi]
             unfold phi3
             rw [ht]
             unfold fourP at h4
             simp only [Bool.or_eq_true] at h4
             rcases h4 with ((h4 | h4) | h4) | h4
             · rw [bn_true (c := p.flags.rcvdTc) h4]; omega
             · rw [bn_true (c := p.flags.rcvdTcn) h4]; omega
             · rw [bn_true (c := p.flags.rcvdTcAck) h4]; omega
             · rw [bn_true (c := p.flags.tcProp) h4]; omega
           · intro h; cases h
     · rename_i ht
       split
       · rename_i ht2
         have ht2 : p.states.topo = 2 := by simpa using ht2
         split
         · rename_i h2
           intro _
           show phi3 (clearsP p) < phi3 p
           have hg : goodT p = false := by
             unfold goodT cnts
             simp only [Bool.or_eq_true, Bool.not_eq_true'] at h2
             rcases h2 with h2 | h2
             · rw [h2]; rfl
             · rw [h2]; simp
           rw [clears_phi]
           unfold phi3
           rw [ht2, hg]
           cases p.flags.learn
           · show _ + 2 < _ + 3; omega
           · show _ + 0 < _ + 1; omega
         · rename_i h2
           split
           · rename_i h3
             intro _
             refine beg_dec fun q hq => ?_
             obtain ⟨e1, e2, e3, e4, e5, e6, e7, e8⟩ := hbeg q hq
             show phi3 (notesP q) + 9 ≤ phi3 p
             rw [hnotes, e1, e2, e3, e6, e7, e8]
             unfold phi3
             rw [bn_true (c := p.flags.rcvdTcn) h3]
             omega
           · rename_i h3
             split
             · rename_i h4
               intro _
               show phi3 (notesP p) + 9 ≤ phi3 p
               rw [hnotes]
               unfold phi3
               rw [bn_true (c := p.flags.rcvdTc) h4]
               omega
             · rename_i h4
               split
               · rename_i h5
                 intro _
                 refine beg_dec fun q hq => ?_
                 obtain ⟨e1, e2, e3, e4, e5, e6, e7, e8⟩ := hbeg q hq
                 show phi3 (propP q) < phi3 p
                 unfold phi3
                 rw [bn_true (c := (propP q).flags.flush) rfl, bn_false (c := (propP q).flags.tcProp) rfl, show (propP q).flags.rcvdTcAck = p.flags.rcvdTcAck from e3, show (propP q).flags.rcvdTc = p.flags.rcvdTc from e4, show (propP q).flags.rcvdTcn = p.flags.rcvdTcn from e5,
                   show goodT (propP q) = goodT p from e6, show (propP q).flags.learn = p.flags.learn from e7, show (propP q).states.topo = p.states.topo from e8, bn_true (c := p.flags.tcProp) h5]
                 omega
               · rename_i h5
                 split
                 · rename_i h6
                   intro _
                   show phi3 (ackP p) < phi3 p
                   unfold phi3
                   rw [bn_false (c := (ackP p).flags.rcvdTcAck) rfl, bn_true (c := p.flags.rcvdTcAck) h6, show goodT (ackP p) = goodT p from rfl]
                   show bn p.flags.flush 1 + bn p.flags.tcProp 2 + 0 + bn p.flags.rcvdTc 9 + bn p.flags.rcvdTcn 9 + yB (goodT p) p.flags.learn p.states.topo < _
                   omega
                 · intro h; cases h
       · intro h; cases h
theorem dec3_topo {n : Nat} {s : BS} {k : Nat} (h5 : n ≤ 5) (hn : s.ps.length = n) (hk : k < n) (h : toFire (ptAt s k) = true) : F3 (topoF s k).1 < F3 s := by
 have hkn : k < s.ps.length := by omega
 have hd := toT_dec (b := s.b) h
 -- the sum, off what each port becomes
 have hsum : ∀ q : Port, (∀ j, j < n → ptAt (topoF s k).1 j = if j = k then q else tcP (ptAt s j)) → phi3 q + 9 ≤ phi3 (ptAt s k) → F3 (topoF s k).1 < F3 s := by
   intro q hat hq
   have hl : (topoF s k).1.ps.length = s.ps.length := stp_len (.m 6 k) s
   have e : (topoF s k).1.ps = (mapI (fun _ p => tcP p) s.ps 0).set k q := by
     have := map_ext (fun p => p) (l := (topoF s k).1.ps) (l' := (mapI (fun _ p => tcP p) s.ps 0).set k q) (by rw [hl, List.length_set, mapI_length]) (fun j hj => by
       rw [getD_set (by rw [mapI_length]; exact hkn), mapI_getD _ _ _ _ (by omega)]
       exact hat j (by omega))
     simpa using this
   show sumP phi3 (topoF s k).1.ps < sumP phi3 s.ps
   rw [e]
   have h2 := sumP_set phi3 (mapI (fun _ p => tcP p) s.ps 0) k q (by rw [mapI_length]; exact hkn)
   rw [mapI_getD _ _ _ _ hkn] at h2
   have h7 := phi3_tc (ptAt s k)
   have h6 : sumP phi3 (mapI (fun _ p => tcP p) s.ps 0) + (phi3 (ptAt s k) + 2 - phi3 (tcP (ptAt s k))) ≤ sumP phi3 s.ps + 2 * s.ps.length := by
     refine sumP_bc_at2 (w := phi3) (f := fun _ p => tcP p) (c := 2) (fun _ p => phi3_tc p) s.ps 0 k hkn ?_
     show phi3 (tcP (ptAt s k)) + (phi3 (ptAt s k) + 2 - phi3 (tcP (ptAt s k))) ≤ phi3 (ptAt s k) + 2
     omega
   have h8 : phi3 (tcP (s.ps.getD k Port.dflt)) = phi3 (tcP (ptAt s k)) := rfl
   rw [h8] at h2
   omega
 have hat := fun j (hj : j < n) => topo_at s k j hkn (by omega)
 have hset : ∀ q : Port, (∀ j, j < n → ptAt (topoF s k).1 j = if j = k then q else ptAt s j) → phi3 q < phi3 (ptAt s k) → F3 (topoF s k).1 < F3 s := by
   intro q hq0 hq
   have hl : (topoF s k).1.ps.length = s.ps.length := stp_len (.m 6 k) s
   have e : (topoF s k).1.ps = s.ps.set k q := by
     have := map_ext (fun p => p) (l := (topoF s k).1.ps) (l' := s.ps.set k q) (by rw [hl, List.length_set]) (fun j hj => by
       rw [getD_set hkn]
       exact hq0 j (by omega))
     simpa using this
   have hs := sumP_set phi3 s.ps k q hkn
   rw [show s.ps.getD k Port.dflt = ptAt s k from rfl] at hs
   show sumP phi3 (topoF s k).1.ps < sumP phi3 s.ps
   rw [e]
   omega
 cases hr : (toT s.b (ptAt s k)).get with
 | no => rw [hr] at hd; exact hd.elim
 | one q => rw [hr] at hd hat; exact hset q hat hd
 | told q => rw [hr] at hd hat; exact hsum q hat hd
 | both q => rw [hr] at hd hat; exact hsum _ hat hd
 | flush =>
   rw [hr] at hd hat
   refine hset _ hat ?_
   have hd : (ptAt s k).flags.flush = true := hd
   unfold phi3
   rw [bn_true (c := (ptAt s k).flags.flush) hd, bn_false (c := ({ ptAt s k with flags := { (ptAt s k).flags with flush := false } } : Port).flags.flush) rfl]
   show 0 + bn (ptAt s k).flags.tcProp 2 + bn (ptAt s k).flags.rcvdTcAck 1 + bn (ptAt s k).flags.rcvdTc 9 + bn (ptAt s k).flags.rcvdTcn 9 + yB (goodT (ptAt s k)) (ptAt s k).flags.learn (ptAt s k).states.topo < _
   omega
theorem own12_3 {n : Nat} {s s' : BS} {o : Op} (ho : o ∈ ops n) (how : low3 o) (hv : view2 s = view2 s') : (stp o s).2 = (stp o s').2 := by
 rcases how with h | h
 · exact own1_2 ho h (view12 hv)
 · exact own2_d ho h hv
theorem layer3 {n : Nat} (h5 : n ≤ 5) : Layer n (Inv2 n) low3 own3 view2 view3 F3 where
 inv s o hn ho hI := hI.stp ho
 v1k s o hn ho hI how := by
   rcases ops_cases ho with rfl | ⟨k, hk, rfl | rfl | rfl | rfl | rfl | rfl | rfl | rfl⟩
   · exact absurd (.inl trivial) how
   · exact absurd (.inl (.inl rfl)) how
   · exact absurd (.inl (.inr (.inl rfl))) how
   · exact absurd (.inr (.inl rfl)) how
   · exact absurd (.inl (.inr (.inr rfl))) how
   · exact absurd (.inr (.inr (.inl rfl))) how
   · exact absurd (.inr (.inr (.inr rfl))) how
   · exact Prod.ext (mach_b 6 s k) (high_keep2 hn hk (.inl rfl))
   · exact Prod.ext (mach_b 7 s k) (high_keep2 hn hk (.inr rfl))
 v1d s s' o hn hn' ho how hv := own12_3 ho how hv
 v2k s o hn ho hI hlo how := by
   rcases ops_cases ho with rfl | ⟨k, hk, rfl | rfl | rfl | rfl | rfl | rfl | rfl | rfl⟩
   · exact absurd (.inl trivial) hlo
   · exact absurd (.inl (.inl rfl)) hlo
   · exact absurd (.inl (.inr (.inl rfl))) hlo
   · exact absurd (.inr (.inl rfl)) hlo
   · exact absurd (.inl (.inr (.inr rfl))) hlo
   · exact absurd (.inr (.inr (.inl rfl))) hlo
   · exact absurd (.inr (.inr (.inr rfl))) hlo
   · exact absurd rfl how
   · exact Prod.ext (mach_b 7 s k) (tx_map (by rw [hn]; exact hk) (fun _ => rfl) (fun _ _ => rfl))
 v2d s s' o hn hn' ho how hv := by
   have hp : s.ps.map proj3 = s'.ps.map proj3 := congrArg Prod.snd hv
   rcases ops_cases ho with rfl | ⟨k, hk, rfl | rfl | rfl | rfl | rfl | rfl | rfl | rfl⟩
   · exact how.elim
   · exact absurd how (by show ¬ (0 = 6); omega)
   · exact absurd how (by show ¬ (1 = 6); omega)
   · exact absurd how (by show ¬ (2 = 6); omega)
   · exact absurd how (by show ¬ (3 = 6); omega)
   · exact absurd how (by show ¬ (4 = 6); omega)
   · exact absurd how (by show ¬ (5 = 6); omega)
   · rw [stp_topo, stp_topo]
     exact (congrArg toFire (map_at hp k) : toFire (proj3 (ptAt s k)) = toFire (proj3 (ptAt s' k)))
   · exact absurd how (by show ¬ (7 = 6); omega)
 dec s o hn ho hI hq how hf := by
   rcases ops_cases ho with rfl | ⟨k, hk, rfl | rfl | rfl | rfl | rfl | rfl | rfl | rfl⟩
   · exact how.elim
   · exact absurd how (by show ¬ (0 = 6); omega)
   · exact absurd how (by show ¬ (1 = 6); omega)
   · exact absurd how (by show ¬ (2 = 6); omega)
   · exact absurd how (by show ¬ (3 = 6); omega)
   · exact absurd how (by show ¬ (4 = 6); omega)
   · exact absurd how (by show ¬ (5 = 6); omega)
   · rw [stp_topo] at hf; exact dec3_topo h5 hn hk hf
   · exact absurd how (by show ¬ (7 = 6); omega)
 dep s s' hv := by
   have hp : s.ps.map proj3 = s'.ps.map proj3 := congrArg Prod.snd hv
   exact sumP_map (w := phi3) (g := proj3) (fun p p' e => by rw [← phi3_dep p, e, phi3_dep]) hp
theorem F3_le {n : Nat} (h5 : n ≤ 5) {s : BS} (hn : s.ps.length = n) : F3 s ≤ 160 := by
 have h1 := sumP_le phi3 32 phi3_le s.ps
 unfold F3
 omega
def own4 : Op → Prop
 | .sel => False
 | .m i _ => i = 7
def low4 (o : Op) : Prop := low3 o ∨ own3 o
def phi4 (p : Port) : Nat := bn (p.clocks.hello == 0) 2 + bn p.flags.newInfo 1
def F4 (s : BS) : Nat := sumP phi4 s.ps
def Dec4 (b : Bri) (p : Port) : TxR → Prop
 | .no => True
 | .one q => phi4 q < phi4 p
 | .send ack _ => phi4 (txSent b p ack) < phi4 p
theorem txPick_dec {b : Bri} {p : Port} {m a : Bool} {d : Sent} (hb : b.times = lawT) : Dec4 b p (txPick b p m a d) := by
 have hh : ((2 : Int) == 0) = false := rfl
 unfold txPick
 split
 · trivial
 · split
   · rename_i h0
     show phi4 (txAsk b p) < phi4 p
     unfold phi4
     rw [h0, bn_true rfl, show (txAsk b p).clocks.hello = b.times.hello from rfl, hb, show (lawT.hello == 0) = false from rfl, bn_false rfl]
     have := bn_le (txAsk b p).flags.newInfo 1
     omega
   · split
     · trivial
     · rename_i h1
       simp only [Bool.or_eq_true, Bool.not_eq_true', not_or, Bool.not_eq_false] at h1
       show phi4 (txSent b p a) < phi4 p
       unfold phi4
       rw [show (txSent b p a).clocks.hello = b.times.hello from rfl, hb, show (lawT.hello == 0) = false from rfl, bn_false rfl, bn_false (c := (txSent b p a).flags.newInfo) rfl, bn_true (c := p.flags.newInfo) h1.1.1]
       omega
theorem txR_dec {b : Bri} {k : Int} {p : Port} (hb : b.times = lawT) : Dec4 b p (txR b k p) := by
 unfold txR
 split
 · exact txPick_dec hb
 · split
   · exact txPick_dec hb
   · exact txPick_dec hb
theorem dec4_tx {n : Nat} {s : BS} {k : Nat} (hI : Inv2 n s) (hk : k < n) (h : (stp (.m 7 k) s).2 = true) : F4 (txF s k).1 < F4 s := by
 have hkn : k < s.ps.length := by rw [hI.i.len]; exact hk
 have hd := txR_dec (b := s.b) (k := k) (p := ptAt s k) hI.i.b.times
 have hset : ∀ q : Port, phi4 q < phi4 (ptAt s k) → sumP phi4 (s.ps.set k q) < sumP phi4 s.ps := by
   intro q hq
   have hs := sumP_set phi4 s.ps k q hkn
   rw [show s.ps.getD k Port.dflt = ptAt s k from rfl] at hs
   omega
 have h : (txX s k (ptAt s k) (txR s.b k (ptAt s k))).2 = true := h
 show sumP phi4 (txX s k (ptAt s k) (txR s.b k (ptAt s k))).1.ps < sumP phi4 s.ps
 revert hd h
 cases txR s.b k (ptAt s k) with
 | no => intro _ h; cases h
 | one q => intro hd _; exact hset q hd
 | send a d => intro hd _; exact hset _ hd
theorem low4_d {n : Nat} {s s' : BS} {o : Op} (ho : o ∈ ops n) (how : low4 o) (hv : view3 s = view3 s') : (stp o s).2 = (stp o s').2 := by
 rcases how with h | h
 · exact own12_3 ho h (view23 hv)
 · have hp : s.ps.map proj3 = s'.ps.map proj3 := congrArg Prod.snd hv
   rcases ops_cases ho with rfl | ⟨k, hk, rfl | rfl | rfl | rfl | rfl | rfl | rfl | rfl⟩
   · exact h.elim
   · exact absurd h (by show ¬ (0 = 6); omega)
   · exact absurd h (by show ¬ (1 = 6); omega)
   · exact absurd h (by show ¬ (2 = 6); omega)
   · exact absurd h (by show ¬ (3 = 6); omega)
   · exact absurd h (by show ¬ (4 = 6); omega)
   · exact absurd h (by show ¬ (5 = 6); omega)
   · rw [stp_topo, stp_topo]
     exact (congrArg toFire (map_at hp k) : toFire (proj3 (ptAt s k)) = toFire (proj3 (ptAt s' k)))
   · exact absurd h (by show ¬ (7 = 6); omega)
theorem layer4 {n : Nat} (h5 : n ≤ 5) : Layer n (Inv2 n) low4 own4 view3 (fun s => s) F4 where
 inv s o hn ho hI := hI.stp ho
 v1k s o hn ho hI how := by
   rcases ops_cases ho with rfl | ⟨k, hk, rfl | rfl | rfl | rfl | rfl | rfl | rfl | rfl⟩
   · exact absurd (.inl (.inl trivial)) how
   · exact absurd (.inl (.inl (.inl rfl))) how
   · exact absurd (.inl (.inl (.inr (.inl rfl)))) how
   · exact absurd (.inl (.inr (.inl rfl))) how
   · exact absurd (.inl (.inl (.inr (.inr rfl)))) how
   · exact absurd (.inl (.inr (.inr (.inl rfl)))) how
   · exact absurd (.inl (.inr (.inr (.inr rfl)))) how
   · exact absurd (.inr rfl) how
   · exact Prod.ext (mach_b 7 s k) (tx_map (by rw [hn]; exact hk) (fun _ => rfl) (fun _ _ => rfl))
 v1d s s' o hn hn' ho how hv := low4_d ho how hv
 v2k s o hn ho hI hlo how := by
   rcases ops_cases ho with rfl | ⟨k, hk, rfl | rfl | rfl | rfl | rfl | rfl | rfl | rfl⟩
   · exact absurd (.inl (.inl trivial)) hlo
   · exact absurd (.inl (.inl (.inl rfl))) hlo
   · exact absurd (.inl (.inl (.inr (.inl rfl)))) hlo
   · exact absurd (.inl (.inr (.inl rfl))) hlo
   · exact absurd (.inl (.inl (.inr (.inr rfl)))) hlo
   · exact absurd (.inl (.inr (.inr (.inl rfl)))) hlo
   · exact absurd (.inl (.inr (.inr (.inr rfl)))) hlo
   · exact absurd (.inr rfl) hlo
   · exact absurd rfl how
 v2d s s' o hn hn' ho how hv := by rw [show s = s' from hv]
 dec s o hn ho hI hq how hf := by
   rcases ops_cases ho with rfl | ⟨k, hk, rfl | rfl | rfl | rfl | rfl | rfl | rfl | rfl⟩
   · exact how.elim
   · exact absurd how (by show ¬ (0 = 7); omega)
   · exact absurd how (by show ¬ (1 = 7); omega)
   · exact absurd how (by show ¬ (2 = 7); omega)
   · exact absurd how (by show ¬ (3 = 7); omega)
   · exact absurd how (by show ¬ (4 = 7); omega)
   · exact absurd how (by show ¬ (5 = 7); omega)
   · exact absurd how (by show ¬ (6 = 7); omega)
   · exact dec4_tx hI hk hf
 dep s s' hv := by rw [show s = s' from hv]
theorem F4_le {n : Nat} (h5 : n ≤ 5) {s : BS} (hn : s.ps.length = n) : F4 s ≤ 15 := by
 have h1 := sumP_le phi4 3 (fun p => by
   have := bn_le (p.clocks.hello == 0) 2
   have := bn_le p.flags.newInfo 1
   unfold phi4; omega) s.ps
 unfold F4
 omega
theorem rests {n : Nat} (h5 : n ≤ 5) {s : BS} (h : Inv2 n s) : ∃ m, m ≤ 761 ∧ Inv2 n (iter m s) ∧ still (iter m s) := by
 have hz := lazy n
 obtain ⟨m1, l1, i1, _, c1⟩ := layer_rest (layer1 h5) hz 281 s (F1_le h5 h.i.len) h.i.len h (fun _ _ hlo => hlo.elim)
 have n1 : (iter m1 s).ps.length = n := by rw [iter_len]; exact h.i.len
 obtain ⟨m2, l2, i2, c2, d2⟩ := layer_rest (layer2 h5) hz 305 _ (F2_le h5 n1) n1 i1 c1
 have n2 : (iter m2 (iter m1 s)).ps.length = n := by rw [iter_len]; exact n1
 obtain ⟨m3, l3, i3, c3, d3⟩ := layer_rest (layer3 h5) hz 160 _ (F3_le h5 n2) n2 i2 (fun o ho hlo => hlo.elim (c2 o ho) (d2 o ho))
 have n3 : (iter m3 (iter m2 (iter m1 s))).ps.length = n := by rw [iter_len]; exact n2
 obtain ⟨m4, l4, i4, c4, d4⟩ := layer_rest (layer4 h5) hz 15 _ (F4_le h5 n3) n3 i3 (fun o ho hlo => hlo.elim (c3 o ho) (d3 o ho))
 refine ⟨m1 + m2 + m3 + m4, by omega, ?_⟩
 rw [iter_add, iter_add, iter_add]
 refine ⟨i4, still_of hz (by rw [iter_len]; exact n3) fun o ho => ?_⟩
 rcases ops_cases ho with rfl | ⟨k, hk, rfl | rfl | rfl | rfl | rfl | rfl | rfl | rfl⟩
 · exact c4 _ ho (.inl (.inl trivial))
 · exact c4 _ ho (.inl (.inl (.inl rfl)))
 · exact c4 _ ho (.inl (.inl (.inr (.inl rfl))))
 · exact c4 _ ho (.inl (.inr (.inl rfl)))
 · exact c4 _ ho (.inl (.inl (.inr (.inr rfl))))
 · exact c4 _ ho (.inl (.inr (.inr (.inl rfl))))
 · exact c4 _ ho (.inl (.inr (.inr (.inr rfl))))
 · exact c4 _ ho (.inr rfl)
 · exact d4 _ ho rfl
end
end
section
open Go Go.RowKit
structure Start (n : Nat) (s : BS) : Prop where
 i : Inv n s
 u : ∀ j, j < n → (ptAt s j).flags.updtInfo = false
 r : s.ps.any askP = false ∨ ∀ j, j < n → (ptAt s j).is_ = 0
structure Mid (n k : Nat) (s : BS) : Prop where
 i : Inv n s
 u : ∀ j, j < n → (ptAt s j).flags.updtInfo = false
 e : ∀ j, j < n → j < k → (ptAt s j).enabled = false → (ptAt s j).is_ = 0
def g3 (p : Port) : Bool × Int × Bool := (p.enabled, p.is_, p.flags.updtInfo)
theorem Mid.of {n k : Nat} {s s' : BS} (h : Mid n k s) (hi : Inv n s') (hm : s'.ps.map g3 = s.ps.map g3) : Mid n k s' := by
 have hat := fun j => map_at hm j
 refine ⟨hi, fun j hj => ?_, fun j hj hk he => ?_⟩
 · have e : (ptAt s' j).flags.updtInfo = (ptAt s j).flags.updtInfo := congrArg (fun x => x.2.2) (hat j)
   rw [e]; exact h.u j hj
 · have e1 : (ptAt s' j).enabled = (ptAt s j).enabled := congrArg (fun x => x.1) (hat j)
   have e2 : (ptAt s' j).is_ = (ptAt s j).is_ := congrArg (fun x => x.2.1) (hat j)
   rw [e2]; exact h.e j hj hk (by rw [← e1]; exact he)
theorem map13 {s s' : BS} (h : s'.ps.map proj1 = s.ps.map proj1) : s'.ps.map g3 = s.ps.map g3 := by
 have := congrArg (List.map g3) h
 rw [List.map_map, List.map_map, show (g3 ∘ proj1) = g3 from rfl] at this
 exact this
theorem rx_g3 (b : Bri) (p : Port) : g3 ((rxT b p).get (p, false)).1 = g3 p := by
 simp only [rxT, receiveT, Out.get]
 repeat' split
 all_goals rfl
theorem mig_g3 (b : Bri) (p : Port) : g3 ((migT b p).get (p, false)).1 = g3 p := by
 simp only [migT, Out.get]
 repeat' split
 all_goals rfl
theorem info_u {b : Bri} {p : Port} (h : p.flags.updtInfo = false) : (infoF b p).1.flags.updtInfo = false := by
 unfold infoF
 repeat' split
 all_goals first
   | exact h
   | rfl
   | (obtain ⟨_, _, e⟩ := hearP_is (r := b.rst) (p := p)
      exact e.trans h)
theorem info_mid {b : Bri} {k : Nat} {p : Port} (hp : PInv b k p) (h : p.flags.updtInfo = false) : EInv (infoF b p).1 := by
 by_cases hc : (!p.enabled && p.is_ != 0) = true
 · have : (infoF b p).1 = disableP p := by unfold infoF; rw [if_pos hc]
   rw [this]
   exact ⟨fun _ => rfl, fun e => (by have e : p.flags.updtInfo = true := e; rw [h] at e; cases e)⟩
 · refine EInv.info hp ⟨fun e => ?_, fun e => by rw [h] at e; cases e⟩
   rw [e] at hc
   simpa using hc
theorem Mid.low {n k i : Nat} {s : BS} (hk : k < n) (hi : i = 0 ∨ i = 1 ∨ i = 2) (h : Mid n k s) : Mid n k (stp (.m i k) s).1 := by
 have hkn : k < s.ps.length := by rw [h.i.len]; exact hk
 rcases hi with rfl | rfl | rfl
 · exact h.of (h.i.stp (ops_of (by decide) hk)) (loc_map hkn (rx_g3 _ _))
 · exact h.of (h.i.stp (ops_of (by decide) hk)) (loc_map hkn (mig_g3 _ _))
 · exact h.of (h.i.stp (ops_of (by decide) hk)) (loc_map hkn (edge_keep fun _ _ => rfl))
theorem Mid.info {n k : Nat} {s : BS} (hk : k < n) (h : Mid n k s) : Mid n (k + 1) (stp (.m 3 k) s).1 := by
 have hkn : k < s.ps.length := by rw [h.i.len]; exact hk
 refine ⟨h.i.stp (ops_of (by decide) hk), loc_all (P := fun p => p.flags.updtInfo = false) h.i.len hk h.u (info_u (h.u k hk)), fun j hj hjk => ?_⟩
 show (ptAt (ofP infoF s k).1 j).enabled = false → (ptAt (ofP infoF s k).1 j).is_ = 0
 rw [ofP_at infoF s k j hkn]
 split
 · exact (info_mid (h.i.p k hk) (h.u k hk)).en
 · exact h.e j hj (by omega)
theorem Mid.high {n k i : Nat} {s : BS} (hk : k < n) (hi : i = 4 ∨ i = 5 ∨ i = 6 ∨ i = 7) (h : Mid n (k + 1) s) : Mid n (k + 1) (stp (.m i k) s).1 := by
 have hkn : k < s.ps.length := by rw [h.i.len]; exact hk
 rcases hi with rfl | rfl | rfl | rfl
 · refine h.of (h.i.stp (ops_of (by decide) hk)) (map13 (trans_map hkn ?_ (fun _ => rfl) (fun _ => rfl) (fun _ => rfl)))
   have := trR_keep1 (ps := s.ps) (h.i.p k hk) ⟨h.e k hk (by omega), fun e => (by rw [h.u k hk] at e; cases e)⟩
   revert this
   cases trR s.b s.ps k (ptAt s k) <;> intro this <;> first | exact this | trivial
 · exact h.of (h.i.stp (ops_of (by decide) hk)) (map13 (loc_map hkn (pass_keep fun _ _ _ => rfl)))
 · exact h.of (h.i.stp (ops_of (by decide) hk)) (map13 (topo_map hkn (toT_keep1 _ _) (fun _ => rfl) (fun _ => rfl) (fun _ => rfl)))
 · exact h.of (h.i.stp (ops_of (by decide) hk)) (map13 (tx_map hkn (fun _ => rfl) (fun _ _ => rfl)))
theorem Mid.port {n k : Nat} {s : BS} (hk : k < n) (h : Mid n k s) : Mid n (k + 1) (fold (portOps k) s) :=
 ((((((((h.low hk (.inl rfl)).low hk (.inr (.inl rfl))).low hk (.inr (.inr rfl))).info hk).high hk (.inl rfl)).high hk (.inr (.inl rfl))).high hk (.inr (.inr (.inl rfl)))).high hk (.inr (.inr (.inr rfl))))
theorem Mid.ports {n : Nat} : ∀ (m k : Nat) (s : BS), k + m = n → Mid n k s → Mid n n (fold (opsN m k) s)
 | 0, k, s, e, h => by
   have : k = n := by omega
   subst this
   exact h
 | m + 1, k, s, e, h => by
   unfold opsN
   rw [fold_app]
   exact Mid.ports m (k + 1) _ (by omega) (h.port (by omega))
theorem Start.sel {n : Nat} {s : BS} (h : Start n s) : Mid n 0 (selF s).1 := by
 refine ⟨h.i.sel, fun j hj => ?_, fun j hj hk => absurd hk (Nat.not_lt_zero _)⟩
 rcases h.r with hr | hr
 · rw [sel_no (by rw [hr]; decide)]; exact h.u j hj
 · by_cases ha : s.ps.any askP = true
   · rw [sel_at ha j (by rw [h.i.len]; exact hj)]
     have := (roleF_keep (stepB s.b s.ps) j (baseP (stepB s.b s.ps) (ptAt s j))).2.2 (hr j hj)
     exact this.trans (h.u j hj)
   · rw [sel_no ha]; exact h.u j hj
theorem first_round {n : Nat} {s : BS} (h : Start n s) : Inv2 n (fold (ops s.ps.length) s) := by
 rw [h.i.len]
 have := Mid.ports n 0 (selF s).1 (by omega) h.sel
 exact ⟨this.i, fun j hj => ⟨this.e j hj hj, fun e => (by have e2 := this.u j hj; rw [show (ptAt (fold (opsN n 0) (selF s).1) j).flags.updtInfo = true from e] at e2; cases e2)⟩⟩
structure Rest (n : Nat) (s : BS) : Prop where
 i : Inv2 n s
 s : still s
theorem still_stp {n : Nat} {s : BS} (hn : s.ps.length = n) (h : still s) : ∀ o ∈ ops n, (stp o s).2 = false := by
 unfold still at h
 rw [hn] at h
 exact (still_fold (lazy n) (ops n) s hn (fun _ h => h) h).2
theorem Start.run {n : Nat} (h5 : n ≤ 5) {s : BS} (h : Start n s) : (runF s).2.2 = true ∧ Rest n (runF s).1 ∧ ∃ j, (runF s).1 = iter j s := by
 obtain ⟨m, hm, _, hst⟩ := rests h5 (first_round h)
 obtain ⟨j, hj, e1, e2, e3⟩ := runN_still (lazy n) (by omega) 1000 (m + 1) s 0 h.i.len (by omega) hst
 refine ⟨e2, ?_, j, e1⟩
 show Rest n (runN 1000 s 0).1
 rw [e1]
 refine ⟨?_, e3⟩
 cases j with
 | zero =>
   have hs := still_stp h.i.len e3
   refine ⟨h.i, fun j hj => ⟨fun e => ?_, fun e => (by have e : (ptAt s j).flags.updtInfo = true := e; rw [h.u j hj] at e; cases e)⟩⟩
   have := hs (.m 3 j) (ops_of (by decide) hj)
   have this : (stp (.m 3 j) s).2 = false := this
   rw [stp_info] at this
   unfold infoFire at this
   simp only [Bool.or_eq_false_iff] at this
   have h1 := this.1.1.1.1.1
   have e : (ptAt s j).enabled = false := e
   rw [e] at h1
   have h2 : (ptAt s j).is_ = 0 := by simpa using h1
   exact h2
 | succ j =>
   show Inv2 n (iter j (fold (ops s.ps.length) s))
   have key : ∀ (j : Nat) (s : BS), Inv2 n s → Inv2 n (iter j s) := by
     intro j
     induction j with
     | zero => intro s h; exact h
     | succ j ih =>
       intro s h
       refine ih _ ?_
       have kf : ∀ (l : List Op) (s : BS), (∀ o ∈ l, o ∈ ops n) → Inv2 n s → Inv2 n (fold l s) := by
         intro l
         induction l with
         | nil => intro s _ h; exact h
         | cons o r ih => intro s hm h; exact ih _ (fun o' ho => hm o' (List.mem_cons_of_mem _ ho)) (h.stp (hm o List.mem_cons_self))
       exact kf _ s (fun o ho => by rw [h.i.len] at ho; exact ho) h
   exact key j _ (first_round h)
theorem Rest.off {n : Nat} {s : BS} (h : Rest n s) : ∀ o ∈ ops n, (stp o s).2 = false := still_stp h.i.i.len h.s
structure AtRest (p : Port) : Prop where
 res : p.flags.reselect = false
 sel : p.flags.selected = true
 upd : p.flags.updtInfo = false
 msg : p.flags.rcvdMsg = false
 bpdu : p.flags.rcvdBpdu = false
 flush : p.flags.flush = false
 role : p.role = p.selected
 on : p.enabled = true ↔ p.role ≠ 0
 off : p.enabled = false ↔ p.is_ = 0
 info : p.states.info ≠ 1
 rx : rxFire p = false
 mig : ∃ r, migFire r p = false
 edge : edgeFire p = false
 infoq : infoFire p = false
 pass : passFire p = false
 topo : toFire p = false
theorem Rest.ask {n : Nat} {s : BS} (h : Rest n s) : s.ps.any askP = false := by
 have := h.off .sel List.mem_cons_self
 rw [stp_sel] at this
 exact this
theorem any_at {f : Port → Bool} : ∀ {l : List Port} {j : Nat}, l.any f = false → j < l.length → f (l.getD j Port.dflt) = false
 | [], j, _, h => absurd h (Nat.not_lt_zero _)
 | p :: r, 0, h, _ => by simp only [List.any_cons, Bool.or_eq_false_iff] at h; exact h.1
 | p :: r, j + 1, h, hj => by
   simp only [List.any_cons, Bool.or_eq_false_iff] at h
   exact any_at (l := r) h.2 (by simpa using hj)
theorem Rest.trans {n : Nat} {s : BS} (h : Rest n s) {j : Nat} (hj : j < n) : trFire s.b s.ps j (ptAt s j) = false := by
 have := h.off (.m 4 j) (ops_of (by decide) hj)
 rw [stp_trans] at this
 exact this
theorem Rest.quiet {n : Nat} {s : BS} (h : Rest n s) {j : Nat} (hj : j < n) : AtRest (ptAt s j) := by
 have hp := h.i.i.p j hj
 have he := h.i.e j hj
 have hjl : j < s.ps.length := by rw [h.i.i.len]; exact hj
 have f : ∀ i, i < 8 → (stp (.m i j) s).2 = false := fun i hi => h.off (.m i j) (ops_of hi hj)
 have f0 := f 0 (by decide); rw [stp_rx] at f0
 have f1 := f 1 (by decide); rw [stp_mig] at f1
 have f2 := f 2 (by decide); rw [stp_edge] at f2
 have f3 := f 3 (by decide); rw [stp_info] at f3
 have f5 := f 5 (by decide); rw [stp_pass] at f5
 have f6 := f 6 (by decide); rw [stp_topo] at f6
 have hres : (ptAt s j).flags.reselect = false := any_at h.ask hjl
 have hsel : (ptAt s j).flags.selected = true := by rw [hp.rs, hres]; rfl
 have g3 := f3
 unfold infoFire at g3
 simp only [Bool.or_eq_false_iff] at g3
 obtain ⟨⟨⟨⟨⟨q1, q2⟩, q3⟩, q4⟩, q5⟩, q6⟩ := g3
 have hupd : (ptAt s j).flags.updtInfo = false := by
   cases hu : (ptAt s j).flags.updtInfo with
   | false => rfl
   | true =>
     have hi := he.ui hu
     unfold toldP at q4 q5
     rw [hsel, hu] at q4 q5
     have hr := hp.st.info
     have h0 : (ptAt s j).states.info ≠ 0 := fun e => hi (hp.inf.1.1 e)
     simp at q4 q5
     omega
 have hinfo : (ptAt s j).states.info ≠ 1 := fun e => by
   rcases hp.i1 e with h1 | h1
   · rw [hres] at h1; cases h1
   · rw [hupd] at h1; cases h1
 have hmsg : (ptAt s j).flags.rcvdMsg = false := by
   cases hm : (ptAt s j).flags.rcvdMsg with
   | false => rfl
   | true =>
     rw [hm] at q2 q6
     rw [hupd] at q6
     have hr := hp.st.info
     simp at q2 q6
     omega
 have g0 := f0
 unfold rxFire at g0
 rw [hmsg] at g0
 simp only [Bool.or_eq_false_iff] at g0
 have hbp : (ptAt s j).flags.rcvdBpdu = false := by
   cases hb : (ptAt s j).flags.rcvdBpdu with
   | false => rfl
   | true =>
     obtain ⟨⟨a1, a2⟩, a3⟩ := g0
     rw [hb] at a1 a2 a3
     have hr := hp.st.rx
     cases hen : (ptAt s j).enabled with
     | false => rw [hen] at a1; simp at a1
     | true =>
       rw [hen] at a2 a3
       simp at a2 a3
       omega
 have hfl : (ptAt s j).flags.flush = false := by
   unfold toFire at f6
   simp only [Bool.or_eq_false_iff] at f6
   exact f6.1.1.1
 have hro : (ptAt s j).role = (ptAt s j).selected := by
   have ht := h.trans hj
   unfold trFire at ht
   rw [hsel, hupd] at ht
   simp only [Bool.not_false, Bool.and_self, Bool.true_and, Bool.or_eq_false_iff] at ht
   exact roles_eq hp ht.1
 have hoff : (ptAt s j).enabled = false ↔ (ptAt s j).is_ = 0 := by
   refine ⟨he.en, fun e => ?_⟩
   have hi := hp.inf.1.2 e
   rw [hi] at q3
   simpa using q3
 refine ⟨hres, hsel, hupd, hmsg, hbp, hfl, hro, ?_, hoff, hinfo, f0, ⟨_, f1⟩, f2, f3, f5, f6⟩
 rw [hro]
 constructor
 · intro e
   refine hp.is1 (fun e0 => ?_) hsel
   rw [hoff.2 e0] at e; cases e
 · intro hne
   cases hen : (ptAt s j).enabled with
   | true => rfl
   | false => exact absurd (hp.is0 (hoff.1 hen) hsel) hne
end
end Go.Proofs.YtjemfkoamfnofaaGreat
