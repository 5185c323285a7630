/- What an argument that came in is: its cells, kind by kind, told by a table of kinds that is read off its type. -/
import Derived.Test.YtfncoeoaniclmaaRow
set_option linter.unusedVariables false
set_option maxRecDepth 100000
namespace Go.Proofs.Ytfncoeoaniclmaa
open Go.ChangeShapes Go.WideShapes Go.ChangeAt Go.RowKit

inductive CK where
  | int (k : IntKind) | bool | any
def CK.fits : CK → Value → Prop
  | .int k, v => ∃ n, v = .int k n ∧ (Lit.int k n).wf = true
  | .bool, v => ∃ b, v = .bool b
  | .any, _ => True
def Fits : List CK → List Value → Prop
  | [], [] => True
  | k :: ks, v :: vs => k.fits v ∧ Fits ks vs
  | _, _ => False
theorem Fits.length : ∀ {ks : List CK} {vs : List Value}, Fits ks vs → vs.length = ks.length
  | [], [], _ => rfl
  | _ :: ks, _ :: vs, h => by simp [Fits.length h.2]
theorem Fits.append : ∀ {ks ms : List CK} {vs us : List Value}, Fits ks vs → Fits ms us → Fits (ks ++ ms) (vs ++ us)
  | [], _, [], _, _, h => h
  | _ :: ks, _, _ :: vs, _, h, h2 => ⟨h.1, Fits.append h.2 h2⟩
theorem fits_any : ∀ (vs : List Value), Fits (List.replicate vs.length .any) vs
  | [] => trivial
  | v :: vs => ⟨trivial, fits_any vs⟩

def flatFs (g : TypeId → Option (List CK)) (sz : TypeId → Nat) : List Field → Nat → Option (List CK)
  | [], _ => some []
  | f :: r, off => bif Nat.beq f.offset off then (match g f.type with
    | some l => bif Nat.beq l.length (sz f.type) then (match flatFs g sz r (off + l.length) with | some m => some (l ++ m) | none => none) else none
    | none => none) else none
def flat (P : Program) : Nat → TypeId → Option (List CK)
  | 0, _ => none
  | n + 1, t => match P.underlying t with
    | some .bool => some [.bool]
    | some (.int k) => some [.int k]
    | some (.struct fs) => (match flatFs (flat P n) P.cellsOf fs.toList 0 with
      | some l => bif Nat.beq l.length (P.cellsOf t) then some l else none
      | none => none)
    | some (.slice _) => bif Nat.beq (P.cellsOf t) 1 then some [.any] else none
    | _ => none

section
variable {H : Type} {enc : TypeId × Value → H} {P : Program} {w : World} {base : Nat} {spare : Nat → Bool} {held : Bool}
theorem mapM_mem {α β : Type} {g : α → Option β} : ∀ {l : List α} {ys : List β}, l.mapM g = some ys → ∀ a ∈ l, ∃ y, g a = some y
  | [], _, _, a, ha => by cases ha
  | x :: r, ys, h, a, ha => by
    simp only [List.mapM_cons, Option.bind_eq_bind, Option.pure_def] at h
    cases hx : g x with
    | none => rw [hx] at h; cases h
    | some y =>
      rw [hx] at h
      cases hr : r.mapM g with
      | none => rw [hr] at h; cases h
      | some zs =>
        rcases List.mem_cons.1 ha with he | he
        · subst he; exact ⟨y, hx⟩
        · exact mapM_mem hr a he

theorem flatFs_ok {g : TypeId → Option (List CK)} {sz : TypeId → Nat} {F : TypeId → List Value → Prop} (hg : ∀ t ks vs, g t = some ks → F t vs → vs.length = sz t → Fits ks vs) : ∀ (fs : List Field) (off : Nat) {ks : List CK} {cs : List Value},
    flatFs g sz fs off = some ks → (∀ f ∈ fs, F f.type ((cs.drop f.offset).take (sz f.type))) → cs.length = off + ks.length → Fits ks (cs.drop off)
  | [], off, ks, cs, h, _, hl => by
    injection h with h; subst h
    rw [List.drop_eq_nil_of_le (by simpa using Nat.le_of_eq hl)]
    trivial
  | f :: r, off, ks, cs, h, hF, hl => by
    unfold flatFs at h
    cases hb : Nat.beq f.offset off with
    | false => rw [hb] at h; cases h
    | true =>
      rw [hb] at h
      simp only [cond_true] at h
      have hoff := Nat.eq_of_beq_eq_true hb
      split at h
      · rename_i l hl1
        cases hb2 : Nat.beq l.length (sz f.type) with
        | false => rw [hb2] at h; cases h
        | true =>
          rw [hb2] at h
          simp only [cond_true] at h
          have hsz := Nat.eq_of_beq_eq_true hb2
          split at h
          · rename_i m hm
            injection h with h; subst h
            have hlen : cs.length = off + (l.length + m.length) := by rw [hl, List.length_append]
            have h1 := hF f List.mem_cons_self
            rw [hoff] at h1
            have h2 := hg f.type l _ hl1 h1 (by rw [List.length_take, List.length_drop, hlen, ← hsz]; omega)
            have h3 := flatFs_ok hg r (off + l.length) hm (fun f' hf' => hF f' (List.mem_cons_of_mem _ hf')) (by rw [hlen]; omega)
            have := h2.append h3
            rw [← hsz] at this
            rw [show cs.drop off = (cs.drop off).take l.length ++ cs.drop (off + l.length) from by rw [← List.drop_drop, List.take_append_drop]]
            exact this
          · cases h
      · cases h

theorem trod_bool_inv {t : TypeId} {fuel : Nat} {cs : List Value} {x : DataW H × List MemPlace} (hu : P.underlying t = some .bool) (hx : DataW.trod enc P w base spare held (fuel + 1) t cs = some x) : ∃ b, cs = [.bool b] := by
  unfold DataW.trod at hx
  rw [hu] at hx
  match cs, hx with
  | [], hx => cases hx
  | [.bool b], _ => exact ⟨b, rfl⟩
  | .bool b :: c :: r, hx => cases hx
  | .int .. :: _, hx | .float .. :: _, hx | .complex .. :: _, hx | .string .. :: _, hx | .pointer .. :: _, hx | .slice .. :: _, hx | .nilIface :: _, hx | .iface .. :: _, hx | .map .. :: _, hx | .nilFunc :: _, hx | .func .. :: _, hx | .chan .. :: _, hx | .agg .. :: _, hx | .tuple .. :: _, hx => simp at hx
theorem trod_int_inv {t : TypeId} {k : IntKind} {fuel : Nat} {cs : List Value} {x : DataW H × List MemPlace} (hu : P.underlying t = some (.int k)) (hx : DataW.trod enc P w base spare held (fuel + 1) t cs = some x) : ∃ n, cs = [.int k n] ∧ (Lit.int k n).wf = true := by
  unfold DataW.trod at hx
  rw [hu] at hx
  match cs, hx with
  | [], hx => cases hx
  | [.int k' n], hx =>
    simp only at hx
    split at hx
    · rename_i hk; obtain ⟨rfl, hw⟩ := hk; exact ⟨n, rfl, hw⟩
    · cases hx
  | .int k' n :: c :: r, hx => cases hx
  | .bool .. :: _, hx | .float .. :: _, hx | .complex .. :: _, hx | .string .. :: _, hx | .pointer .. :: _, hx | .slice .. :: _, hx | .nilIface :: _, hx | .iface .. :: _, hx | .map .. :: _, hx | .nilFunc :: _, hx | .func .. :: _, hx | .chan .. :: _, hx | .agg .. :: _, hx | .tuple .. :: _, hx => simp at hx
theorem trod_struct_inv {t : TypeId} {fs : Array Field} {fuel : Nat} {cs : List Value} {x : DataW H × List MemPlace} (hu : P.underlying t = some (.struct fs)) (hl : cs.length = P.cellsOf t) (hx : DataW.trod enc P w base spare held (fuel + 1) t cs = some x) :
    ∀ f ∈ fs.toList, ∃ y, DataW.trod enc P w base spare held fuel f.type ((cs.drop f.offset).take (P.cellsOf f.type)) = some y := by
  unfold DataW.trod at hx
  rw [hu] at hx
  have hx' : (if cs.length = P.cellsOf t then (fs.toList.mapM fun f => DataW.trod enc P w base spare held fuel f.type ((cs.drop f.offset).take (P.cellsOf f.type))).map fun xs => ((.agg (xs.map (·.1)) : DataW H), xs.flatMap (·.2)) else none) = some x := hx
  rw [if_pos hl] at hx'
  cases hm : fs.toList.mapM (fun f => DataW.trod enc P w base spare held fuel f.type ((cs.drop f.offset).take (P.cellsOf f.type))) with
  | none => rw [hm] at hx'; cases hx'
  | some ys => exact mapM_mem hm

theorem flat_ok : ∀ (n : Nat) {t : TypeId} {ks : List CK} {cs : List Value}, flat P n t = some ks → (∃ fuel x, DataW.trod enc P w base spare held fuel t cs = some x) → cs.length = P.cellsOf t → Fits ks cs
  | 0, t, ks, cs, h, _, _ => by cases h
  | n + 1, t, ks, cs, h, ⟨fuel, x, hx⟩, hlen => by
    unfold flat at h
    cases fuel with
    | zero => simp [DataW.trod] at hx
    | succ fuel =>
      split at h
      · rename_i hu
        injection h with h; subst h
        obtain ⟨b, rfl⟩ := trod_bool_inv hu hx
        exact ⟨⟨_, rfl⟩, trivial⟩
      · rename_i k hu
        injection h with h; subst h
        obtain ⟨m, rfl, hw⟩ := trod_int_inv hu hx
        exact ⟨⟨_, rfl, hw⟩, trivial⟩
      · rename_i fs hu
        split at h
        · rename_i l hl
          cases hb : Nat.beq l.length (P.cellsOf t) with
          | false => rw [hb] at h; cases h
          | true =>
            rw [hb] at h
            simp only [cond_true, Option.some.injEq] at h
            subst h
            have hsz := Nat.eq_of_beq_eq_true hb
            have hm := trod_struct_inv hu hlen hx
            have := flatFs_ok (F := fun t vs => ∃ fuel x, DataW.trod enc P w base spare held fuel t vs = some x) (fun t ks vs h1 h2 h3 => flat_ok n h1 h2 h3) fs.toList 0 hl (cs := cs)
              (fun f hf => by obtain ⟨y, hy⟩ := hm f hf; exact ⟨fuel, y, hy⟩) (by rw [hlen, ← hsz]; omega)
            simpa using this
        · cases h
      · cases hb : Nat.beq (P.cellsOf t) 1 with
        | false => rw [hb] at h; cases h
        | true =>
          rw [hb] at h
          simp only [cond_true, Option.some.injEq] at h
          subst h
          have := Nat.eq_of_beq_eq_true hb
          rw [this] at hlen
          have h2 := fits_any cs
          rw [hlen] at h2
          exact h2
      · cases h
end

/-- a struct by value that came in -/
theorem open_flat {H : Type} {enc : TypeId × Value → H} {w w' : World} {base : Nat} {spare : Nat → Bool} {held : Bool} {n : Nat} {t : TypeId} {fs : Array Field} {ks : List CK} {v : Value} {d : DataW H} {p : List MemPlace}
    (hu : Try.prog.underlying t = some (.struct fs)) (hf : flat Try.prog n t = some ks) (hok : ∃ b, Value.okWide Try.prog w' .any b t v) (h : DataW.Trod enc Try.prog w base spare held t v d p) : ∃ cs, v = .agg cs ∧ Fits ks cs.toList := by
  obtain ⟨b, hok⟩ := hok
  unfold Value.okWide at hok
  rw [hu] at hok
  obtain ⟨cs, rfl, hsz, _⟩ := hok
  obtain ⟨fuel, hx⟩ := h
  exact ⟨cs, rfl, flat_ok n hf ⟨fuel, _, hx⟩ (by simpa using hsz)⟩
theorem open_whole {H : Type} {enc : TypeId × Value → H} {w : World} {base : Nat} {spare : Nat → Bool} {held : Bool} {t : TypeId} {k : IntKind} {v : Value} {d : DataW H} {p : List MemPlace}
    (hu : Try.prog.underlying t = some (.int k)) (hok : ∃ b, Value.okWide Try.prog w .any b t v) (h : DataW.Trod enc Try.prog w base spare held t v d p) : ∃ n, v = .int k n ∧ (Lit.int k n).wf = true := by
  obtain ⟨b, hok⟩ := hok
  obtain ⟨n, e, _, _, hw⟩ := open_int hu hok h
  exact ⟨n, e, hw⟩
theorem wf_u64 {n : Int} (h : (Lit.int .u64 n).wf = true) : 0 ≤ n ∧ n < 18446744073709551616 := by
  simp [Lit.wf, IntKind.min, IntKind.max, IntKind.signed, IntKind.bits] at h
  omega
theorem wf_u32 {n : Int} (h : (Lit.int .u32 n).wf = true) : 0 ≤ n ∧ n < 4294967296 := by
  simp [Lit.wf, IntKind.min, IntKind.max, IntKind.signed, IntKind.bits] at h
  omega
theorem wf_u16 {n : Int} (h : (Lit.int .u16 n).wf = true) : 0 ≤ n ∧ n < 65536 := by
  simp [Lit.wf, IntKind.min, IntKind.max, IntKind.signed, IntKind.bits] at h
  omega
theorem wf_i64 {n : Int} (h : (Lit.int .i64 n).wf = true) : -9223372036854775808 ≤ n ∧ n < 9223372036854775808 := by
  simp [Lit.wf, IntKind.min, IntKind.max, IntKind.signed, IntKind.bits] at h
  omega
end Go.Proofs.Ytfncoeoaniclmaa
