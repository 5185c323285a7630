import Derived.Test.YtjemfkoamfnofaaGreatBase
import Derived.Test.YtjemfkoamfnofaaGreatRows
import Derived.WalkKit
import Derived.ProofKit
import Derived.OpenShut
import Derived.ChangeOld
import Derived.Below
import Derived.Carry
import Derived.SizedLaws
import Derived.Test.YtjemfkoamfnofaaGreatRd
import Derived.ChangeArms
set_option linter.unusedVariables false
set_option maxRecDepth 100000
namespace Go.Proofs.YtjemfkoamfnofaaGreat
section
open Go.ChangeShapes Go.WideShapes Go.ChangeAt Go.RowKit
theorem lawOwn : ownKnob Tryz.prog.godebug = none := by kernel_rfl
theorem lawLaid : laidOutB Tryz.prog = true := by kernel_rfl
theorem trodAll_length {H : Type} {enc : TypeId × Value → H} {P : Program} {w : World} {base : Nat} {spare : Nat → Bool} {held : Bool} : ∀ {ts : List TypeId} {vs : List Value} {ds : List (DataW H)} {ps : List MemPlace},
   DataW.TrodAll enc P w base spare held ts vs ds ps → ds.length = ts.length
 | [], vs, ds, ps, h => by obtain ⟨rfl, rfl, rfl⟩ := trodAll_nil h; rfl
 | t :: ts, vs, ds, ps, h => by
   obtain ⟨v, vs', d, ds', p, q, rfl, rfl, rfl, _, h2⟩ := trodAll_cons h
   simp [trodAll_length h2]
theorem trodAll_below {H : Type} {enc : TypeId × Value → H} {W W' : World} (hb : Below W.heap.size W W') : ∀ {ts : List TypeId} {vs : List Value} {ds : List (DataW H)} {ps : List MemPlace},
   (∀ t ∈ ts, Tryz.prog.readableRec t = true ∧ t < Tryz.prog.types.size) → DataW.TrodAll enc Tryz.prog W 0 (fun _ => true) true ts vs ds ps → (∀ x ∈ ps, x.block < W.heap.size) →
   DataW.TrodAll enc Tryz.prog W' 0 (fun b => decide (b < W.heap.size)) true ts vs ds ps
 | [], vs, ds, ps, _, h, _ => by obtain ⟨rfl, rfl, rfl⟩ := trodAll_nil h; exact trodAll_mk0
 | t :: ts, vs, ds, ps, hr, h, hlt => by
   obtain ⟨v, vs', d, ds', p, q, rfl, rfl, rfl, h1, h2⟩ := trodAll_cons h
   have h0 := hr t List.mem_cons_self
   exact trodAll_cons_mk (Below.trod lawLaid h0.1 h0.2 h1 hb fun x hx => hlt x (List.mem_append_left _ hx)) (trodAll_below hb (fun t ht => hr t (List.mem_cons_of_mem _ ht)) h2 fun x hx => hlt x (List.mem_append_right _ hx))
theorem law_lifted {f : FuncId} {fn : Func} {s : ChangeSpec} {dom : List PathCond} {tb : TypeId} {ts : List TypeId} (hfn : Tryz.checked.prog.funcs[f]? = some fn) (noInit : Tryz.checked.prog.inits.idxOf? f = none)
   (hps : fn.params.toList = ts) (hr : (∀ t ∈ ts, Tryz.prog.readableRec t = true ∧ t < Tryz.prog.types.size)) (hres : fn.resultTypes = #[tb]) (htb : Tryz.prog.underlying tb = some .bool) (hvars : s.vars = [])
   (hspec : ∀ (H : Type) (ds : List (DataW H)), ds.length = ts.length → s.fn H ds = { results := [.lit (.bool true)], args := ds })
   (os : Os) (started : os.Started) (H : Type) (enc : TypeId × Value → H)
   (witness : ∃ (w : World) (tape : Tape) (i : Input), w.os = os ∧ (w.forCall tape i).Shaped Tryz.checked.prog ∧ i.vars = [] ∧ Input.okWide Tryz.checked.prog (w.forCall tape i) .any w.heap.size f i ∧
     s.pre6 enc Tryz.checked.prog fn dom false (w.forCall tape i).memory i.args ∧ Assume.holds {} Tryz.checked.prog (lone (Frame.enter Tryz.checked.prog f i.args .normal) [] (w.forCall tape i)))
   (contract : ∀ (W : World) (args : Array Value) (ds : List (DataW H)) (ps : List MemPlace), (∀ (j : Nat) t v, ts[j]? = some t → args[j]? = some v → ∃ base, Value.okWide Tryz.prog W .any base t v) →
     DataW.TrodAll enc Tryz.prog W 0 (fun _ => true) true ts args.toList ds ps → (∀ x ∈ ps, x.block < W.heap.size) → (DataW.weightsEach Tryz.prog ts ds).all (· ≤ reachBytes) = true →
     Calls Tryz.prog f args W fun e W' => e = .returned (.bool true) ∧ Fr W W' (fun _ _ => False)) :
   ReturnsInHanded {} Tryz.checked os f .any (s.pre6 enc Tryz.prog fn dom false) (s.post enc Tryz.prog fn false true false false) := by
 refine returnsInHanded_of_change_sized (C := Tryz.checked) lawOwn started noInit hfn witness ?_
 intro W base args ds gs before hval hW _ hsz _
 have hW' := hW
 obtain ⟨p, q, hA0, hV, rfl, hfz, hnd⟩ := hW
 have hA : DataW.TrodAll enc Tryz.prog W 0 (fun _ => true) true ts args.toList ds p := by rw [← hps]; exact hA0
 rw [hvars] at hV
 obtain ⟨rfl, rfl⟩ := trodVars_none hV
 have hlt : ∀ x ∈ p, x.block < W.heap.size := fun x hx => by simpa using hW'.lt x (List.mem_append_left _ hx)
 have hsz' : (DataW.weightsEach Tryz.prog ts ds).all (· ≤ reachBytes) = true := by
   have e : s.plain.varTypes Tryz.checked.prog = [] := by
     have : s.plain.vars = [] := hvars
     simp [DataSpec.varTypes, this]
   rw [e, List.append_nil, List.append_nil, hps] at hsz
   exact hsz
 refine (contract W args ds p (fun j t v hj hv => ⟨base, hval j t v (by rw [← Array.getElem?_toList, hps]; exact hj) hv⟩) hA hlt hsz').mono fun e W' ⟨he, hfr⟩ => ?_
 have bel := hfr.below
 subst he
 have hs := hspec H (ds ++ []) (by rw [List.append_nil]; exact trodAll_length hA)
 refine ⟨_, rfl, ds, [], p ++ [], [], p, [], hW', ?_, ?_, ?_, bel.frame _, fun h => by cases h⟩
 · rw [hs, hres]
   exact trodAll_mk1 (shut_bool htb _)
 · rw [hs, List.append_nil]
   rw [show fn.params.toList = ts from hps]
   exact trodAll_below bel hr hA hlt
 · rw [hs, hvars]
   rfl
end
section
open Go.ChangeShapes Go.WideShapes Go.ChangeAt Go.RowKit
inductive CK where
 | int (k : IntKind) | bool | any
def CK.fits : CK → Value → Prop
 | .int k, v => ∃ n, v = .int k n ∧ (Lit.int k n).wf = true
 | .bool, v => ∃ b, v = .bool b
 | .any, _ => True
def Fits : List CK → List Value → Prop
 | [], [] => True
 | k :: ks, v :: vs => k.fits v ∧ Fits ks vs
 | _, _ => False
theorem Fits.append : ∀ {ks ms : List CK} {vs us : List Value}, Fits ks vs → Fits ms us → Fits (ks ++ ms) (vs ++ us)
 | [], _, [], _, _, h => h
 | _ :: ks, _, _ :: vs, _, h, h2 => ⟨h.1, Fits.append h.2 h2⟩
theorem fits_any : ∀ (vs : List Value), Fits (List.replicate vs.length .any) vs
 | [] => trivial
 | v :: vs => ⟨trivial, fits_any vs⟩
def flatFs (g : TypeId → Option (List CK)) (sz : TypeId → Nat) : List Field → Nat → Option (List CK)
 | [], _ => some []
 | f :: r, off => bif Nat.beq f.offset off then (match g f.type with
   | some l => bif Nat.beq l.length (sz f.type) then (match flatFs g sz r (off + l.length) with | some m => some (l ++ m) | none => none) else none
   | none => none) else none
def flat (P : Program) : Nat → TypeId → Option (List CK)
 | 0, _ => none
 | n + 1, t => match P.underlying t with
   | some .bool => some [.bool]
   | some (.int k) => some [.int k]
   | some (.struct fs) => (match flatFs (flat P n) P.cellsOf fs.toList 0 with
     | some l => bif Nat.beq l.length (P.cellsOf t) then some l else none
     | none => none)
   | some (.slice _) => bif Nat.beq (P.cellsOf t) 1 then some [.any] else none
   | _ => none
section
variable {H : Type} {enc : TypeId × Value → H} {P : Program} {w : World} {base : Nat} {spare : Nat → Bool} {held : Bool}
theorem mapM_mem {α β : Type} {g : α → Option β} : ∀ {l : List α} {ys : List β}, l.mapM g = some ys → ∀ a ∈ l, ∃ y, g a = some y
 | [], _, _, a, ha => by cases ha
 | x :: r, ys, h, a, ha => by
   simp only [List.mapM_cons, Option.bind_eq_bind, Option.pure_def] at h
   cases hx : g x with
   | none => rw [hx] at h; cases h
   | some y =>
     rw [hx] at h
     cases hr : r.mapM g with
     | none => rw [hr] at h; cases h
     | some zs =>
       rcases List.mem_cons.1 ha with he | he
       · subst he; exact ⟨y, hx⟩
       · exact mapM_mem hr a he
theorem flatFs_ok {g : TypeId → Option (List CK)} {sz : TypeId → Nat} {F : TypeId → List Value → Prop} (hg : ∀ t ks vs, g t = some ks → F t vs → vs.length = sz t → Fits ks vs) : ∀ (fs : List Field) (off : Nat) {ks : List CK} {cs : List Value},
   flatFs g sz fs off = some ks → (∀ f ∈ fs, F f.type ((cs.drop f.offset).take (sz f.type))) → cs.length = off + ks.length → Fits ks (cs.drop off)
 | [], off, ks, cs, h, _, hl => by
   injection h with h; subst h
   rw [List.drop_eq_nil_of_le (by simpa using Nat.le_of_eq hl)]
   trivial
 | f :: r, off, ks, cs, h, hF, hl => by
   unfold flatFs at h
   cases hb : Nat.beq f.offset off with
   | false => rw [hb] at h; cases h
   | true =>
     rw [hb] at h
     simp only [cond_true] at h
     have hoff := Nat.eq_of_beq_eq_true hb
     split at h
     · rename_i l hl1
       cases hb2 : Nat.beq l.length (sz f.type) with
       | false => rw [hb2] at h; cases h
       | true =>
         rw [hb2] at h
         simp only [cond_true] at h
         have hsz := Nat.eq_of_beq_eq_true hb2
         split at h
         · rename_i m hm
           injection h with h; subst h
           have hlen : cs.length = off + (l.length + m.length) := by rw [hl, List.length_append]
           have h1 := hF f List.mem_cons_self
           rw [hoff] at h1
           have h2 := hg f.type l _ hl1 h1 (by rw [List.length_take, List.length_drop, hlen, ← hsz]; omega)
           have h3 := flatFs_ok hg r (off + l.length) hm (fun f' hf' => hF f' (List.mem_cons_of_mem _ hf')) (by rw [hlen]; omega)
           have := h2.append h3
           rw [← hsz] at this
           rw [show cs.drop off = (cs.drop off).take l.length ++ cs.drop (off + l.length) from by rw [← List.drop_drop, List.take_append_drop]]
           exact this
         · cases h
     · cases h
theorem trod_bool_inv {t : TypeId} {fuel : Nat} {cs : List Value} {x : DataW H × List MemPlace} (hu : P.underlying t = some .bool) (hx : DataW.trod enc P w base spare held (fuel + 1) t cs = some x) : ∃ b, cs = [.bool b] := by
 unfold DataW.trod at hx
 rw [hu] at hx
 match cs, hx with
 | [], hx => cases hx
 | [.bool b], _ => exact ⟨b, rfl⟩
 | .bool b :: c :: r, hx => cases hx
 | .int .. :: _, hx | .float .. :: _, hx | .complex .. :: _, hx | .string .. :: _, hx | .pointer .. :: _, hx | .slice .. :: _, hx | .nilIface :: _, hx | .iface .. :: _, hx | .map .. :: _, hx | .nilFunc :: _, hx | .func .. :: _, hx | .chan .. :: _, hx | .agg .. :: _, hx | .tuple .. :: _, hx => simp at hx
theorem trod_int_inv {t : TypeId} {k : IntKind} {fuel : Nat} {cs : List Value} {x : DataW H × List MemPlace} (hu : P.underlying t = some (.int k)) (hx : DataW.trod enc P w base spare held (fuel + 1) t cs = some x) : ∃ n, cs = [.int k n] ∧ (Lit.int k n).wf = true := by
 unfold DataW.trod at hx
 rw [hu] at hx
 match cs, hx with
 | [], hx => cases hx
 | [.int k' n], hx =>
   simp only at hx
   split at hx
   · rename_i hk; obtain ⟨rfl, hw⟩ := hk; exact ⟨n, rfl, hw⟩
   · cases hx
 | .int k' n :: c :: r, hx => cases hx
 | .bool .. :: _, hx | .float .. :: _, hx | .complex .. :: _, hx | .string .. :: _, hx | .pointer .. :: _, hx | .slice .. :: _, hx | .nilIface :: _, hx | .iface .. :: _, hx | .map .. :: _, hx | .nilFunc :: _, hx | .func .. :: _, hx | .chan .. :: _, hx | .agg .. :: _, hx | .tuple .. :: _, hx => simp at hx
theorem trod_struct_inv {t : TypeId} {fs : Array Field} {fuel : Nat} {cs : List Value} {x : DataW H × List MemPlace} (hu : P.underlying t = some (.struct fs)) (hl : cs.length = P.cellsOf t) (hx : DataW.trod enc P w base spare held (fuel + 1) t cs = some x) :
   ∀ f ∈ fs.toList, ∃ y, DataW.trod enc P w base spare held fuel f.type ((cs.drop f.offset).take (P.cellsOf f.type)) = some y := by
 unfold DataW.trod at hx
 rw [hu] at hx
 have hx' : (if cs.length = P.cellsOf t then (fs.toList.mapM fun f => DataW.trod enc P w base spare held fuel f.type ((cs.drop f.offset).take (P.cellsOf f.type))).map fun xs => ((.agg (xs.map (·.1)) : DataW H), xs.flatMap (·.2)) else none) = some x := hx
 rw [if_pos hl] at hx'
 cases hm : fs.toList.mapM (fun f => DataW.trod enc P w base spare held fuel f.type ((cs.drop f.offset).take (P.cellsOf f.type))) with
 | none => rw [hm] at hx'; cases hx'
 | some ys => exact mapM_mem hm
theorem flat_ok : ∀ (n : Nat) {t : TypeId} {ks : List CK} {cs : List Value}, flat P n t = some ks → (∃ fuel x, DataW.trod enc P w base spare held fuel t cs = some x) → cs.length = P.cellsOf t → Fits ks cs
 | 0, t, ks, cs, h, _, _ => by cases h
 | n + 1, t, ks, cs, h, ⟨fuel, x, hx⟩, hlen => by
   unfold flat at h
   cases fuel with
   | zero => simp [DataW.trod] at hx
   | succ fuel =>
     split at h
     · rename_i hu
       injection h with h; subst h
       obtain ⟨b, rfl⟩ := trod_bool_inv hu hx
       exact ⟨⟨_, rfl⟩, trivial⟩
     · rename_i k hu
       injection h with h; subst h
       obtain ⟨m, rfl, hw⟩ := trod_int_inv hu hx
       exact ⟨⟨_, rfl, hw⟩, trivial⟩
     · rename_i fs hu
       split at h
       · rename_i l hl
         cases hb : Nat.beq l.length (P.cellsOf t) with
         | false => rw [hb] at h; cases h
         | true =>
           rw [hb] at h
           simp only [cond_true, Option.some.injEq] at h
           subst h
           have hsz := Nat.eq_of_beq_eq_true hb
           have hm := trod_struct_inv hu hlen hx
           have := flatFs_ok (F := fun t vs => ∃ fuel x, DataW.trod enc P w base spare held fuel t vs = some x) (fun t ks vs h1 h2 h3 => flat_ok n h1 h2 h3) fs.toList 0 hl (cs := cs)
             (fun f hf => by obtain ⟨y, hy⟩ := hm f hf; exact ⟨fuel, y, hy⟩) (by rw [hlen, ← hsz]; omega)
           simpa using this
       · cases h
     · cases hb : Nat.beq (P.cellsOf t) 1 with
       | false => rw [hb] at h; cases h
       | true =>
         rw [hb] at h
         simp only [cond_true, Option.some.injEq] at h
         subst h
         have := Nat.eq_of_beq_eq_true hb
         rw [this] at hlen
         have h2 := fits_any cs
         rw [hlen] at h2
         exact h2
     · cases h
end
theorem wf_u64 {n : Int} (h : (Lit.int .u64 n).wf = true) : 0 ≤ n ∧ n < 18446744073709551616 := by
 simp [Lit.wf, IntKind.min, IntKind.max, IntKind.signed, IntKind.bits] at h
 omega
theorem wf_u32 {n : Int} (h : (Lit.int .u32 n).wf = true) : 0 ≤ n ∧ n < 4294967296 := by
 simp [Lit.wf, IntKind.min, IntKind.max, IntKind.signed, IntKind.bits] at h
 omega
theorem wf_u16 {n : Int} (h : (Lit.int .u16 n).wf = true) : 0 ≤ n ∧ n < 65536 := by
 simp [Lit.wf, IntKind.min, IntKind.max, IntKind.signed, IntKind.bits] at h
 omega
end
section
open Go.ChangeShapes Go.WideShapes Go.ChangeAt Go.RowKit
def S0 : Stat := ⟨fun _ => (none, 0, 0), fun _ => 0, fun _ => false⟩
def E0 : Env := ⟨fun _ => default, fun _ => (0, false)⟩
theorem fits_i {k : IntKind} {ks : List CK} {vs : List Value} (h : Fits (.int k :: ks) vs) : ∃ n r, (Lit.int k n).wf = true ∧ vs = .int k n :: r ∧ Fits ks r := by
 cases vs with
 | nil => exact h.elim
 | cons v vs => obtain ⟨⟨n, rfl, hw⟩, h⟩ := h; exact ⟨n, vs, hw, rfl, h⟩
theorem fits_b {ks : List CK} {vs : List Value} (h : Fits (.bool :: ks) vs) : ∃ b r, vs = .bool b :: r ∧ Fits ks r := by
 cases vs with
 | nil => exact h.elim
 | cons v vs => obtain ⟨⟨b, rfl⟩, h⟩ := h; exact ⟨b, vs, rfl, h⟩
theorem fits_0 {vs : List Value} (h : Fits [] vs) : vs = [] := by
 cases vs with
 | nil => rfl
 | cons v vs => exact h.elim
theorem list_of {α : Type} {P : Nat → α → Prop} : ∀ (n : Nat), (∀ i, i < n → ∃ x, P i x) → ∃ l : List α, l.length = n ∧ ∀ i x, l[i]? = some x → P i x
 | 0, _ => ⟨[], rfl, fun i x h => by simp at h⟩
 | n + 1, h => by
   obtain ⟨l, hl, hP⟩ := list_of n (fun i hi => h i (by omega))
   obtain ⟨x, hx⟩ := h n (by omega)
   refine ⟨l ++ [x], by simp [hl], fun i y hy => ?_⟩
   by_cases hi : i < n
   · rw [List.getElem?_append_left (by omega)] at hy; exact hP i y hy
   · have hlt := (List.getElem?_eq_some_iff.1 hy).1
     simp only [List.length_append, List.length_singleton, hl] at hlt
     have : i = n := by omega
     subst this
     rw [List.getElem?_append_right (by omega), hl] at hy
     simp only [Nat.sub_self, List.getElem?_cons_zero, Option.some.injEq] at hy
     subst hy
     exact hx
theorem flat_get {α : Type} {cells : α → List Value} {z : Nat} (hz : ∀ x, (cells x).length = z) : ∀ (l : List α) (k : Nat) (v : Value), (l.flatMap cells)[k]? = some v → ∃ i j x, l[i]? = some x ∧ (cells x)[j]? = some v ∧ k = i * z + j ∧ j < z
 | [], k, v, h => by simp at h
 | x :: r, k, v, h => by
   rw [List.flatMap_cons] at h
   by_cases hk : k < z
   · rw [List.getElem?_append_left (by rw [hz]; exact hk)] at h
     exact ⟨0, k, x, rfl, h, by simp, hk⟩
   · rw [List.getElem?_append_right (by rw [hz]; omega), hz] at h
     obtain ⟨i, j, y, h1, h2, h3, h4⟩ := flat_get hz r (k - z) v h
     exact ⟨i + 1, j, y, by simpa using h1, h2, by rw [Nat.add_mul]; omega, h4⟩
theorem add_at {a : Addr} (hs : a.spot = none) (n : Nat) : a.add n = ⟨a.block, a.off + n, none⟩ := by
 unfold Addr.add
 split
 · subst_vars; cases a; simp_all
 · rfl
theorem at_of_cells {w : World} {a : Addr} {vs : List Value} (hs : a.spot = none) (hp : 0 < vs.length) (h : ∀ k v, vs[k]? = some v → w.cell? ⟨a.block, a.off + k, none⟩ = some v) (hone : ∀ v ∈ vs, v.oneCell' = true) : At w a vs := by
 have h0 := h 0 _ (List.getElem?_eq_getElem hp)
 unfold World.cell? at h0
 split at h0
 · rename_i cs t fr hb
   refine ⟨hs, .inl ⟨cs, t, fr, hb, ?_, fun k v hk => ?_⟩⟩
   · have h1 := h (vs.length - 1) _ (List.getElem?_eq_getElem (by omega))
     simp only [World.cell?, hb] at h1
     have := (Array.getElem?_eq_some_iff.1 h1).1
     omega
   · have h1 := h k v hk
     simp only [World.cell?, hb] at h1
     exact ⟨h1, hone v (List.mem_of_getElem? hk)⟩
 · cases h0
theorem range_u8 {n : Int} (h : (Lit.int .u8 n).wf = true) : 0 ≤ n ∧ n < 256 := by
 simp [Lit.wf, IntKind.min, IntKind.max, IntKind.signed, IntKind.bits] at h
 omega
end
end Go.Proofs.YtjemfkoamfnofaaGreat
