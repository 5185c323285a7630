import Derived.Test.YtjemfkoamfnofaaGreatTys
import Derived.Laws.StructEq
set_option linter.unusedVariables false
namespace Go.Proofs.YtjemfkoamfnofaaGreat
open Go Go.RowKit
-- do two lists of cells fit a type of whole numbers and bools?
mutual
def matchTy : Nat → TypeId → List Value → List Value → Bool
 | 0, _, _, _ => false
 | n + 1, t, xs, ys => match tys t with
   | some ⟨_, .int _, _⟩ => (match xs, ys with | [.int k _], [.int k' _] => k == k' | _, _ => false)
   | some ⟨_, .bool, _⟩ => (match xs, ys with | [.bool _], [.bool _] => true | _, _ => false)
   | some ⟨z, .strct fs, _⟩ => Nat.beq xs.length z && Nat.beq ys.length z && hasN structTys t && matchFs n fs 0 xs ys
   | _ => false
def matchFs : Nat → List (Nat × TypeId) → Nat → List Value → List Value → Bool
 | _, [], _, xs, ys => xs.isEmpty && ys.isEmpty
 | 0, _ :: _, _, _, _ => false
 | n + 1, (o, ft) :: r, k, xs, ys => match tys ft with
   | some e => Nat.beq o k && Nat.ble e.size xs.length && Nat.ble e.size ys.length && matchTy n ft (xs.take e.size) (ys.take e.size) && matchFs n r (Nat.add k e.size) (xs.drop e.size) (ys.drop e.size)
   | none => false
end
def rawV (g : Bool) (l : List Value) : SV := match g, l with
 | true, l => .agg (l.map .v)
 | false, [v] => .v v
 | false, _ => .tup []
theorem cellss_raw (S : Stat) (E : Env) : ∀ l : List Value, SV.cellss S E (l.map .v) = l
 | [] => rfl
 | v :: r => by simp [SV.cellss, SV.cells, cellss_raw S E r]
theorem sizes_raw : ∀ l : List Value, SV.sizes (l.map .v) = l.length
 | [] => rfl
 | v :: r => by
   have := sizes_raw r
   show Nat.add 1 (SV.sizes (r.map .v)) = _
   rw [this]; simp [Nat.add_comm]
def S9 : Stat := ⟨fun _ => (none, 0, 0), fun _ => 0, fun _ => false⟩
def E9 : Env := ⟨fun _ => default, fun _ => (0, false)⟩
def denV (g : Bool) (l : List Value) : Value := (rawV g l).den S9 E9
mutual
theorem eq_ty : ∀ (n : Nat) (t : TypeId) (xs ys : List Value) (td : TD), matchTy n t xs ys = true → tys t = some td → ∀ d, n ≤ d → ∀ w, ∃ b, (Op.equalIn d t (denV td.sh.agg xs) (denV td.sh.agg ys)).run Tryz.prog w = .ok b w ∧ (b = true ↔ xs = ys)
 | 0, t, xs, ys, td, h, htd => by simp [matchTy] at h
 | n + 1, t, xs, ys, td, h, htd => by
   intro d hd w
   obtain ⟨d, rfl⟩ : ∃ m, d = m + 1 := ⟨d - 1, by omega⟩
   have hok := tys_ok t td htd
   obtain ⟨i, u, hi, hu, hsz, hsh⟩ := hok.info
   unfold matchTy at h
   rw [htd] at h
   obtain ⟨z, sh, zero⟩ := td
   cases sh with
   | int k0 =>
     simp only at h
     split at h
     · rename_i k a k' b
       have hk : k = k' := by simpa using h
       subst hk
       have := shape_int hsh; subst this
       refine ⟨a == b, ?_, by simp⟩
       simpa [denV, rawV, Sh.agg, SV.den] using run_equalIn_int (P := Tryz.prog) w d t k k0 a b hu
     · cases h
   | bool =>
     simp only at h
     split at h
     · rename_i a b
       have := shape_bool hsh; subst this
       refine ⟨a == b, ?_, by simp⟩
       simpa [denV, rawV, Sh.agg, SV.den] using run_equalIn_bool (P := Tryz.prog) w d t a b hu
     · cases h
   | strct fs =>
     simp only [Bool.and_eq_true, Nat.beq_eq] at h
     obtain ⟨⟨⟨h1, h2⟩, h3⟩, h4⟩ := h
     obtain ⟨fields, rfl, hf⟩ := shape_struct hsh
     have hm := hasN_mem _ _ h3
     have hst := List.all_eq_true.1 structTys_ok t hm
     simp only [Bool.and_eq_true, Bool.not_eq_true'] at hst
     have hnm := List.all_eq_true.1 structNames_ok t hm
     rw [hu] at hnm
     have hfo : Tryz.prog.fieldsOf t = fields := by simp [Program.fieldsOf, hu]
     have hrun := run_equalIn_struct (P := Tryz.prog) w d t xs.toArray ys.toArray (by rw [hfo]; exact hu) hst.1
     rw [hfo] at hrun
     obtain ⟨b, hb, hiff⟩ := eq_fs n fs 0 xs ys xs ys (by simp) (by simp) (Nat.zero_le _) (Nat.zero_le _) h4 fields.toList hf (fun f hf' => by simpa using List.all_eq_true.1 hnm f hf') d (by omega) w
     refine ⟨b, ?_, hiff⟩
     have e : ∀ l : List Value, denV (Sh.agg (.strct fs)) l = .agg l.toArray := fun l => by simp [denV, rawV, Sh.agg, SV.den, cellss_raw]
     show (Op.equalIn (d + 1) t (denV (Sh.agg (.strct fs)) xs) (denV (Sh.agg (.strct fs)) ys)).run Tryz.prog w = _
     rw [e, e, hrun, hb]
   | str => simp at h
   | func => simp at h
   | other => simp at h
   | slice e => simp at h
   | arr m e => simp at h
   | ptr e => simp at h
   | map k e => simp at h
   | flt k => simp at h
   | cpx k => simp at h
theorem eq_fs : ∀ (n : Nat) (fs : List (Nat × TypeId)) (k : Nat) (xs ys X Y : List Value), X.drop k = xs → Y.drop k = ys → k ≤ X.length → k ≤ Y.length → matchFs n fs k xs ys = true → ∀ (fields : List Field), fields.map (fun f => (f.offset, f.type)) = fs →
   (∀ f ∈ fields, f.name ≠ "_") → ∀ d, n ≤ d → ∀ w, ∃ b, (Op.eqFields d X.toArray Y.toArray fields).run Tryz.prog w = .ok b w ∧ (b = true ↔ xs = ys)
 | n, [], k, xs, ys, X, Y, hX, hY, hkX, hkY, h, fields, hf, hnm, d, hd, w => by
   have : fields = [] := by simpa using hf
   subst this
   cases n <;> simp only [matchFs, Bool.and_eq_true, List.isEmpty_iff] at h <;> exact ⟨true, by simp [Op.eqFields], by simp [h.1, h.2]⟩
 | 0, (o, ft) :: r, k, xs, ys, X, Y, hX, hY, hkX, hkY, h, fields, hf, hnm, d, hd, w => by simp [matchFs] at h
 | n + 1, (o, ft) :: r, k, xs, ys, X, Y, hX, hY, hkX, hkY, h, fields, hf, hnm, d, hd, w => by
   cases fields with
   | nil => simp at hf
   | cons f fr =>
     simp only [List.map_cons, List.cons.injEq, Prod.mk.injEq] at hf
     obtain ⟨⟨rfl, rfl⟩, hfr⟩ := hf
     unfold matchFs at h
     split at h
     · rename_i e he
       simp only [Bool.and_eq_true, Nat.beq_eq] at h
       obtain ⟨⟨⟨⟨h1, h2⟩, h3⟩, h4⟩, h5⟩ := h
       have h2 := Nat.le_of_ble_eq_true h2
       have h3 := Nat.le_of_ble_eq_true h3
       obtain ⟨b1, hb1, hi1⟩ := eq_ty n f.type (xs.take e.size) (ys.take e.size) e h4 he d (by omega) w
       obtain ⟨b2, hb2, hi2⟩ := eq_fs n r (k + e.size) (xs.drop e.size) (ys.drop e.size) X Y (by rw [← List.drop_drop, hX]) (by rw [← List.drop_drop, hY]) (by have := congrArg List.length hX; simp at this; omega) (by have := congrArg List.length hY; simp at this; omega) h5 fr hfr (fun g hg => hnm g (List.mem_cons_of_mem _ hg)) d (by omega) w
       have hok := tys_ok _ _ he
       have hlen : ∀ (l : List Value), matchTy n f.type (xs.take e.size) (ys.take e.size) = true → e.size ≤ l.length → e.sh.agg = false → (l.take e.size).length = 1 → True := fun _ _ _ _ _ => trivial
       have hpart : ∀ (Z zs os : List Value), Z.drop k = zs → k ≤ Z.length → e.size ≤ zs.length → (matchTy n f.type (zs.take e.size) os = true ∨ matchTy n f.type os (zs.take e.size) = true) → (part f.type Z.toArray f.offset).run Tryz.prog w = .ok (denV e.sh.agg (zs.take e.size)) w := by
         intro Z zs os hZ hkZ hle hma
         have hpo : PartOk S9 E9 Z f.offset e.size e.sh.agg (rawV e.sh.agg (zs.take e.size)) := by
           have hl : (zs.take e.size).length = e.size := List.length_take_of_le hle
           have hZl : k + e.size ≤ Z.length := by
             have := congrArg List.length hZ
             simp at this; omega
           cases hg : e.sh.agg with
           | true =>
             refine ⟨rfl, ?_, ?_, by rw [h1]; exact hZl⟩
             · simp only [rawV, SV.cells, cellss_raw]; rw [h1, hZ]
             · simp only [rawV, SV.size, sizes_raw, hl]
           | false =>
             -- one cell
             have hone : ∃ v, zs.take e.size = [v] := by
               obtain ⟨z, sh, zero⟩ := e
               cases n with
               | zero => rcases hma with hma | hma <;> simp [matchTy] at hma
               | succ n =>
                 rcases hma with hma | hma <;> unfold matchTy at hma <;> rw [he] at hma <;> cases sh <;> simp only [Sh.agg, reduceCtorEq] at hg hma <;> (try cases hma) <;> (split at hma <;> first | exact ⟨_, by assumption⟩ | cases hma)
             obtain ⟨v, hv⟩ := hone
             have hs1 : e.size = 1 := by rw [hv] at hl; simpa using hl.symm
             refine ⟨?_, ?_, ?_, by rw [h1]; exact hZl⟩
             · rw [hv]; rfl
             · rw [hv]; simp only [rawV, SV.cells]; rw [h1, hZ, hv]
             · rw [hv, hs1]; rfl
         exact run_part_at hok w hpo
       have hp1 := hpart X xs _ hX hkX h2 (.inl h4)
       have hp2 := hpart Y ys _ hY hkY h3 (.inr h4)
       have hn : f.name ≠ "_" := hnm f List.mem_cons_self
       have hsplit : xs = ys ↔ (xs.take e.size = ys.take e.size ∧ xs.drop e.size = ys.drop e.size) := by
         constructor
         · rintro rfl; exact ⟨rfl, rfl⟩
         · rintro ⟨ha, hb⟩; rw [← List.take_append_drop e.size xs, ha, hb, List.take_append_drop]
       refine ⟨b1 && b2, ?_, by rw [Bool.and_eq_true, hi1, hi2, hsplit]⟩
       simp only [Op.eqFields, if_pos hn, Sem.run_bind, hp1, hp2, hb1, Result.andThen_ok]
       cases b1
       · simp
       · simpa using hb2
     · cases h
end
theorem eq_rec {t : TypeId} {td : TD} (htd : tys t = some td) (hag : td.sh.agg = true) {xs ys : List Value} (h : matchTy 64 t xs ys = true) (ox oy : Operand) (w : World) : ∃ b, (b = true ↔ xs = ys) ∧
   (do eqGuard .eql t ox oy (.agg xs.toArray) (.agg ys.toArray); binOp .eql t (.agg xs.toArray) (.agg ys.toArray)).run Tryz.prog w = .ok (.bool b) w ∧
   (do eqGuard .neq t ox oy (.agg xs.toArray) (.agg ys.toArray); binOp .neq t (.agg xs.toArray) (.agg ys.toArray)).run Tryz.prog w = .ok (.bool (!b)) w := by
 obtain ⟨b, hb, hiff⟩ := eq_ty 64 t xs ys td h htd 10000 (by omega) w
 have e : ∀ l : List Value, denV td.sh.agg l = .agg l.toArray := fun l => by rw [hag]; simp [denV, rawV, SV.den, cellss_raw]
 rw [e, e] at hb
 have hm : t ∈ structTys := by
   unfold matchTy at h
   rw [htd] at h
   obtain ⟨z, sh, zero⟩ := td
   cases sh <;> simp only [Sh.agg, reduceCtorEq] at hag h
   · simp only [Bool.and_eq_true] at h; exact hasN_mem _ _ h.1.2
 have hst := List.all_eq_true.1 structTys_ok t hm
 simp only [Bool.and_eq_true, Bool.not_eq_true'] at hst
 refine ⟨b, hiff, ?_, ?_⟩
 · rw [Sem.run_bind, run_eqGuard_agg w .eql t ox oy _ _ hst.2, Result.andThen_ok, run_eql_struct, hb]; rfl
 · rw [Sem.run_bind, run_eqGuard_agg w .neq t ox oy _ _ hst.2, Result.andThen_ok, run_neq_struct, hb]; rfl
end Go.Proofs.YtjemfkoamfnofaaGreat
