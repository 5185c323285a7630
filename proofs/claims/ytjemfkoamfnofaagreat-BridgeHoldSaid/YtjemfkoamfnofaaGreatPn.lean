import Derived.Test.YtjemfkoamfnofaaGreatPl
set_option linter.unusedVariables false
set_option maxRecDepth 100000
namespace Go.Proofs.YtjemfkoamfnofaaGreat
open Go Go.RowKit
def gD (p : Port) : (Bool × Int × Bool × Int) × (Bool × Bool × Bool × Bool × Int) := ((p.enabled, p.is_, p.flags.reselect, p.selected), (p.flags.rcvdMsg, p.flags.rcvdBpdu, p.flags.selected, p.flags.updtInfo, p.states.info))
def gL (p : Port) : ((Bool × Int × Bool × Int) × (Bool × Bool × Bool × Bool × Int)) × Int := (gD p, p.role)
def g5 (p : Port) : Bool × Int × Bool := (p.enabled, p.is_, p.flags.reselect)
def KeepG {α : Type} (g : Port → α) (p : Port) : TrR → Prop
 | .one q => g q = g p
 | .oneT q => g q = g p
 | _ => True
theorem topo_bo (s : BS) (k : Int) : (topoF s k).1.b = s.b ∧ (topoF s k).1.out = s.out := by
 unfold topoF
 cases (toT s.b (s.ps.getD k.toNat Port.dflt)).get <;> exact ⟨rfl, rfl⟩
theorem iter_keep {n : Nat} {P : BS → Prop} (hs : ∀ s o, o ∈ ops n → s.ps.length = n → P s → P (stp o s).1) : ∀ (j : Nat) (s : BS), s.ps.length = n → P s → P (iter j s)
 | 0, s, _, h => h
 | j + 1, s, hl, h => by
   have kf : ∀ (l : List Op) (s : BS), (∀ o ∈ l, o ∈ ops n) → s.ps.length = n → P s → P (fold l s) := by
     intro l
     induction l with
     | nil => intro s _ _ h; exact h
     | cons o r ih => intro s hm hl h; exact ih _ (fun o' ho => hm o' (List.mem_cons_of_mem _ ho)) (by rw [stp_len]; exact hl) (hs s o (hm o List.mem_cons_self) hl h)
   rw [iter]
   exact iter_keep hs j _ (by rw [fold_len]; exact hl) (kf _ s (fun o ho => by rw [hl] at ho; exact ho) hl h)
theorem run_keep {n : Nat} (h5 : n ≤ 5) {P : BS → Prop} (hs : ∀ s o, o ∈ ops n → s.ps.length = n → P s → P (stp o s).1) {s : BS} (h : Start n s) (hP : P s) : P (runF s).1 := by
 obtain ⟨_, _, j, e⟩ := h.run h5
 rw [e]
 exact iter_keep hs j s h.i.len hP
def lowC : ((Bool × Int × Bool × Int) × (Bool × Bool × Bool × Bool × Int)) × Int := (((false, 0, false, 0), (false, false, true, false, 0)), 0)
structure Low (n : Nat) (b : Bri) (s : BS) : Prop where
 b : s.b = b
 o : s.out = []
 p : ∀ j, j < n → gL (ptAt s j) = lowC
structure LowP (p : Port) : Prop where
 en : p.enabled = false
 is_ : p.is_ = 0
 res : p.flags.reselect = false
 sel : p.selected = 0
 msg : p.flags.rcvdMsg = false
 bpdu : p.flags.rcvdBpdu = false
 fs : p.flags.selected = true
 upd : p.flags.updtInfo = false
 info : p.states.info = 0
 role : p.role = 0
end Go.Proofs.YtjemfkoamfnofaaGreat
