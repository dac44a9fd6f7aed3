/-
  A shadow interpreter for the model's operations: the operations that touch no memory are met, all of them. (No program in it.) A shadow interpreter for the model's operations: loads, and '=='. (No program in it.) A shadow interpreter for the model's operations: the other operations that read. (No program in it.)
-/
import Derived.Test.YtnhofgbjmofcnaaGreatRLb

namespace Go.Sh
open Go

variable [Sg : Sig]

theorem VR.ptr_some {ι : Inj} {a : Addr} {v' : Value} (h : VR ι (.pointer (some a)) v') : ∃ n off ni, a = ⟨n, off, none⟩ ∧ ι n = some ni ∧ v' = .pointer (some ⟨ni.blk, ni.d + off, none⟩) := by
  cases h with
  | ptr n off ni h => exact ⟨n, off, ni, rfl, h, rfl⟩

omit Sg in
theorem add_spot (b o n : Nat) : (Addr.add ⟨b, o, none⟩ n) = ⟨b, o + n, none⟩ := by
  unfold Addr.add
  by_cases h : n = 0
  · subst h; simp
  · simp [h]

omit Sg in
theorem mapA (l : List Operand) (f : Operand → Value) : (Array.map f l.toArray) = (l.map f).toArray := by simp

section
variable {E : Env} {P : Program} {ι : Inj} {ρ : Operand → Option Value} {ρ' : Operand → Value}

theorem meets_unOp (hρ : Env' ι ρ ρ') {o : Oper} {op : UnOp} {t : TypeId} {x : Operand} {v : Value} (ho : o.op = .unOp op t x) (h : apure E ρ o = some v) (w : World) :
    Meets P ι ρ' o v w := by
  unfold apure at h
  simp only [ho] at h
  cases hx : ρ x with
  | none => rw [hx] at h; cases op <;> cases h
  | some a =>
    rw [hx] at h
    have fin : ∀ a, ρ' x = a → (Op.unary op a).run P w = .ok v w → plainV v = true → Meets P ι ρ' o v w := by
      intro a hx h3 h4
      refine ⟨v, ?_, plainV_VR h4⟩
      unfold execOp
      simp only [ho, hx]
      simp [h3]
    cases op <;> cases a <;> (try simp only at h) <;> first | (cases h; done) | skip
    case neg.int k n =>
      cases h
      exact fin _ (int_of hρ hx) (by simp [Op.unary, Op.intArith]) rfl
    case xor.int k n =>
      refine fin _ (int_of hρ hx) ?_ ?_
      · simp only [aint] at h; cases h; simp [Op.unary, Op.intBits]
      · simp only [aint] at h; cases h; rfl
    case not.bool b =>
      cases h
      exact fin _ (bool_of hρ hx) (by simp [Op.unary]) rfl

theorem meets_convert (hE : E.Ok P) (hρ : Env' ι ρ ρ') {o : Oper} {s d : TypeId} {x : Operand} {v : Value} (ho : o.op = .convert s d x) (hs : cls E o.op = .pure) (h : apure E ρ o = some v) (w : World) :
    Meets P ι ρ' o v w := by
  unfold apure at h
  simp only [ho, cls] at h hs
  cases hds : E.ty.get s with
  | none => rw [hds] at hs; cases hs
  | some ts => cases hdd : E.ty.get d with
    | none => rw [hdd] at h; cases h
    | some td =>
      rw [hdd] at h
      rw [hds, hdd] at hs
      simp only at h hs
      have us := (hE.ty _ _ hds).und
      have ud := (hE.ty _ _ hdd).und
      cases hx : ρ x with
      | none => rw [hx] at h; cases hq : td.und <;> simp [hq] at h
      | some a =>
        rw [hx] at h
        have fin : ∀ a, ρ' x = a → (convert s d a).run P w = .ok v w → plainV v = true → Meets P ι ρ' o v w := by
          intro a hx h3 h4
          refine ⟨v, ?_, plainV_VR h4⟩
          unfold execOp
          simp only [ho, hx]
          simp [h3]
        cases hts : ts.und <;> cases htd : td.und <;> simp only [hts, htd] at hs h us ud <;> first | (cases hs; done) | (cases h; done) | skip
        case int.int k k' =>
          cases a <;> (try simp only at h) <;> first | (cases h; done) | skip
          cases h
          exact fin _ (int_of hρ hx) (by simp [convert, run_underlying us, run_underlying ud, Conv.intToInt]) rfl
        case string.string =>
          cases a <;> (try simp only at h) <;> first | (cases h; done) | skip
          cases h
          exact fin _ (str_of hρ hx) (by simp [convert, run_underlying us, run_underlying ud]) rfl

theorem meets_fieldAddr (hE : E.Ok P) (hρ : Env' ι ρ ρ') {o : Oper} {t : TypeId} {x : Operand} {i : Nat} {v : Value} (ho : o.op = .fieldAddr t x i) (h : apure E ρ o = some v) (w : World) :
    Meets P ι ρ' o v w := by
  unfold apure at h
  simp only [ho] at h
  cases hx : ρ x with
  | none => rw [hx] at h; cases h
  | some a => cases ht : E.ty.get t with
    | none => rw [hx, ht] at h; cases a <;> (try cases h) <;> rename_i a <;> cases a <;> cases h
    | some ti =>
      rw [hx, ht] at h
      cases a <;> first | (cases h; done) | skip
      rename_i a
      cases a with
      | none => cases h
      | some a =>
        simp only at h
        obtain ⟨n, off, ni, rfl, hn, hv'⟩ := (hρ _ _ hx).ptr_some
        have hu := (hE.ty _ _ ht).und
        cases hd : ti.und <;> simp only [hd] at h hu <;> first | (cases h; done) | skip
        rename_i fs
        cases hf : fs.toList[i]? with
        | none => rw [hf] at h; cases h
        | some f =>
          simp only [hf] at h
          cases htf : E.ty.get f.type with
          | none => rw [htf] at h; cases h
          | some tf =>
            simp only [htf] at h
            have hsz := (hE.ty _ _ htf).run_size (P := P)
            by_cases hz : tf.size = 0
            · simp [hz] at h
            · simp [nat_beq_eq, hz] at h
              subst h
              have hfa : fs[i]? = some f := by simpa using hf
              refine ⟨.pointer (some ⟨ni.blk, ni.d + (off + f.offset), none⟩), ?_, .ptr n _ ni hn⟩
              unfold execOp
              simp only [ho, hv']
              simp [Instr.fieldAt, run_underlying hu, hfa, Instr.sureAddr, fieldPlace, hsz, hz, add_spot, Nat.add_assoc]

theorem meets_field (hE : E.Ok P) (hρ : Env' ι ρ ρ') {o : Oper} {t : TypeId} {x : Operand} {i : Nat} {v : Value} (ho : o.op = .field t x i) (h : apure E ρ o = some v) (w : World) :
    Meets P ι ρ' o v w := by
  unfold apure at h
  simp only [ho] at h
  cases hx : ρ x with
  | none => rw [hx] at h; cases h
  | some a => cases ht : E.ty.get t with
    | none => rw [hx, ht] at h; cases a <;> cases h
    | some ti =>
      rw [hx, ht] at h
      cases a <;> first | (cases h; done) | skip
      rename_i cs
      simp only at h
      have hvr := hρ _ _ hx
      cases hxv : ρ' x with
      | agg cs' =>
        rw [hxv] at hvr
        have hc : LR ι cs.toList cs'.toList := by cases hvr with | agg _ _ hh => exact hh
        have hu := (hE.ty _ _ ht).und
        cases hd : ti.und <;> simp only [hd] at h hu <;> first | (cases h; done) | skip
        rename_i fs
        cases hf : fs.toList[i]? with
        | none => rw [hf] at h; cases h
        | some f =>
          simp only [hf] at h
          cases htf : E.ty.get f.type with
          | none => rw [htf] at h; cases h
          | some tf =>
            simp only [htf] at h
            obtain ⟨v', h1, h2⟩ := partAt_run (hE.ty _ _ htf) hc h w
            have hfa : fs[i]? = some f := by simpa using hf
            refine ⟨v', ?_, h2⟩
            unfold execOp
            simp only [ho, hxv]
            simp [Instr.field, run_underlying hu, hfa, asAgg, h1]
      | _ => rw [hxv] at hvr; cases hvr

theorem VR.slice_some {ι : Inj} {a : Addr} {len cap : Nat} {v' : Value} (h : VR ι (.slice (some a) len cap) v') :
    (∃ n off ni cap', a = ⟨n, off, none⟩ ∧ ι n = some ni ∧ v' = .slice (some ⟨ni.blk, ni.d + off, none⟩) len cap' ∧ CapOk ni off cap cap' ∧ cap ≤ cap') ∨
    (∃ a', len = 0 ∧ cap = 0 ∧ v' = .slice (some a') 0 0) := by
  cases h with
  | slice n off len cap cap' ni h hc hle => exact .inl ⟨n, off, ni, cap', rfl, h, rfl, hc, hle⟩
  | szero a a' => exact .inr ⟨a', rfl, rfl, rfl⟩

theorem meets_indexAddr (hE : E.Ok P) (hρ : Env' ι ρ ρ') {o : Oper} {t : TypeId} {x i : Operand} {v : Value} (ho : o.op = .indexAddr t x i) (h : apure E ρ o = some v) (w : World) :
    Meets P ι ρ' o v w := by
  unfold apure at h
  simp only [ho] at h
  cases hx : ρ x with
  | none => rw [hx] at h; cases h
  | some a => cases hi : ρ i with
    | none => rw [hx, hi] at h; cases h
    | some iv =>
      rw [hx, hi] at h
      cases iv <;> first | (cases h; done) | skip
      rename_i k n
      have ei := int_of hρ hi
      cases ht : E.ty.get t with
      | none => rw [ht] at h; cases h
      | some ti =>
        rw [ht] at h
        simp only at h
        have hu := (hE.ty _ _ ht).und
        cases hd : ti.und <;> simp only [hd] at h hu <;> first | (cases h; done) | skip
        case array len e =>
          cases a <;> (try simp only at h) <;> first | (cases h; done) | skip
          rename_i a
          cases a with
          | none => cases h
          | some a =>
            simp only at h
            obtain ⟨m, off, ni, rfl, hm, hv'⟩ := (hρ _ _ hx).ptr_some
            cases he : E.ty.get e with
            | none => rw [he] at h; cases h
            | some te =>
              simp only [he] at h
              split at h
              · rename_i hb
                cases h
                have hsz := (hE.ty _ _ he).run_size (P := P)
                refine ⟨.pointer (some ⟨ni.blk, ni.d + (off + n.toNat * te.size), none⟩), ?_, .ptr m _ ni hm⟩
                unfold execOp
                simp only [ho, hv', ei]
                simp only [Instr.indexAt, asIntOf]
                simp [run_underlying hu, Instr.sureAddr, hb.1, hb.2.1, hsz, add_spot, Nat.add_assoc]
              · cases h
        case slice e =>
          cases a <;> (try simp only at h) <;> first | (cases h; done) | skip
          rename_i a len cap
          cases a with
          | none => cases h
          | some a =>
            simp only at h
            cases he : E.ty.get e with
            | none => rw [he] at h; cases h
            | some te =>
              simp only [he] at h
              split at h
              · rename_i hb
                cases h
                have hsz := (hE.ty _ _ he).run_size (P := P)
                rcases (hρ _ _ hx).slice_some with ⟨m, off, ni, cap', rfl, hm, hv', _, _⟩ | ⟨a', rfl, rfl, hv'⟩
                · refine ⟨.pointer (some ⟨ni.blk, ni.d + (off + n.toNat * te.size), none⟩), ?_, .ptr m _ ni hm⟩
                  unfold execOp
                  simp only [ho, hv', ei]
                  simp only [Instr.indexAt, asIntOf]
                  simp [run_underlying hu, hb.1, hb.2.1, hsz, add_spot, Nat.add_assoc]
                · exfalso; omega
              · cases h

theorem meets_index (hE : E.Ok P) (hρ : Env' ι ρ ρ') {o : Oper} {t : TypeId} {x i : Operand} {v : Value} (ho : o.op = .index t x i) (h : apure E ρ o = some v) (w : World) :
    Meets P ι ρ' o v w := by
  unfold apure at h
  simp only [ho] at h
  cases hx : ρ x with
  | none => rw [hx] at h; cases h
  | some a => cases hi : ρ i with
    | none => rw [hx, hi] at h; cases h
    | some iv =>
      rw [hx, hi] at h
      cases iv <;> first | (cases h; done) | skip
      rename_i k n
      have ei := int_of hρ hi
      cases ht : E.ty.get t with
      | none => rw [ht] at h; cases h
      | some ti =>
        rw [ht] at h
        simp only at h
        have hu := (hE.ty _ _ ht).und
        cases hd : ti.und <;> simp only [hd] at h hu <;> first | (cases h; done) | skip
        case array len e =>
          cases a <;> (try simp only at h) <;> first | (cases h; done) | skip
          rename_i cs
          have hvr := hρ _ _ hx
          cases hxv : ρ' x with
          | agg cs' =>
            rw [hxv] at hvr
            have hc : LR ι cs.toList cs'.toList := by cases hvr with | agg _ _ hh => exact hh
            cases he : E.ty.get e with
            | none => rw [he] at h; cases h
            | some te =>
              simp only [he] at h
              split at h
              · rename_i hb
                have hsz := (hE.ty _ _ he).run_size (P := P)
                obtain ⟨v', h1, h2⟩ := partAt_run (hE.ty _ _ he) hc h w
                refine ⟨v', ?_, h2⟩
                unfold execOp
                simp only [ho, hxv, ei]
                simp only [Instr.index, asIntOf]
                simp [run_underlying hu, hb.1, hb.2, hsz, h1]
              · cases h
          | _ => rw [hxv] at hvr; cases hvr
        case string =>
          cases a <;> (try simp only at h) <;> first | (cases h; done) | skip
          rename_i b
          have ex := str_of hρ hx
          split at h
          · rename_i hb
            cases hg : b.data.toList[n.toNat]? with
            | none => rw [hg] at h; cases h
            | some c =>
              simp only [hg] at h
              cases h
              refine ⟨.int .u8 c.toNat, ?_, .int _ _⟩
              have hg' : b[n.toNat]? = some c := by
                have : b.data[n.toNat]? = some c := by simpa using hg
                obtain ⟨hlt, hc⟩ := Array.getElem?_eq_some_iff.1 this
                have hlt' : n.toNat < b.size := hlt
                rw [getElem?_pos b n.toNat hlt']
                exact congrArg some hc
              unfold execOp
              simp only [ho, ex, ei]
              simp only [Instr.index, asIntOf]
              simp [run_underlying hu, hb, hg']
          · cases h

theorem meets_build (hE : E.Ok P) (hρ : Env' ι ρ ρ') {o : Oper} {t : TypeId} {parts : Array (Nat × Operand)} {v : Value} (ho : o.op = .build t parts) (h : apure E ρ o = some v) (w : World) :
    Meets P ι ρ' o v w := by
  unfold apure at h
  simp only [ho] at h
  cases hp : evalP ρ parts.toList with
  | none => rw [hp] at h; cases h
  | some vs => cases ht : E.ty.get t with
    | none => rw [hp, ht] at h; cases h
    | some ti =>
      rw [hp, ht] at h
      simp only at h
      have hT := hE.ty _ _ ht
      have hu := hT.und
      have hpr := evalP_PR hρ hp
      obtain ⟨z, hz, hzc, _⟩ := hT.run_zero w
      have hzl : LR ι ti.zero z.cells.toList := by rw [hzc]; exact .self fun v hv => plainV_VR (hT.plain v hv)
      have hparts : (parts.map fun (i, x) => (i, ρ' x)).toList = parts.toList.map fun (i, x) => (i, ρ' x) := by simp
      cases hd : ti.und <;> simp only [hd] at h hu <;> first | (cases h; done) | skip
      case array len e =>
        cases he : E.ty.get e with
        | none => rw [he] at h; cases h
        | some te =>
          simp only [he] at h
          cases hf : fillA te.size vs ti.zero with
          | none => rw [hf] at h; cases h
          | some c =>
            simp only [hf] at h
            cases h
            obtain ⟨c', h1, h2⟩ := fillA_fill hpr hzl hf
            have hsz := (hE.ty _ _ he).run_size (P := P)
            refine ⟨.agg c', ?_, .agg _ _ h2⟩
            unfold execOp
            simp only [ho]
            simp only [Instr.build]
            simp only [Sem.run_bind, hz, Result.andThen_ok, run_underlying hu, hsz, hparts, h1, Sem.run_pure]
      case struct fs =>
        cases hk : known E fs.toList with
        | false => rw [hk] at h; cases h
        | true =>
          simp only [hk, cond_true] at h
          cases hf : fillS E fs.toList vs ti.zero with
          | none => rw [hf] at h; cases h
          | some c =>
            simp only [hf] at h
            cases h
            obtain ⟨pl, hpl1, hpl2⟩ := run_placesA hE fs hk w
            obtain ⟨c', h1, h2⟩ := fillS_fill hpl2 hpr hzl hf
            refine ⟨.agg c', ?_, .agg _ _ h2⟩
            unfold execOp
            simp only [ho]
            simp only [Instr.build]
            simp only [Sem.run_bind, hz, Result.andThen_ok, run_underlying hu, hpl1, hparts, h1, Sem.run_pure]

/-- EVERY OPERATION THAT TOUCHES NO MEMORY. -/
theorem apure_meets (hE : E.Ok P) (hρ : Env' ι ρ ρ') {o : Oper} {v : Value} (hc : cls E o.op = .pure) (h : apure E ρ o = some v) (w : World) : Meets P ι ρ' o v w := by
  cases ho : o.op with
  | move x =>
    unfold apure at h; simp only [ho] at h
    exact ⟨ρ' x, by unfold execOp; simp only [ho]; rfl, hρ x v h⟩
  | assign x =>
    unfold apure at h; simp only [ho] at h
    exact ⟨ρ' x, by unfold execOp; simp only [ho]; rfl, hρ x v h⟩
  | pick c a b =>
    unfold apure at h; simp only [ho] at h
    cases h1 : ρ c with
    | none => rw [h1] at h; cases h
    | some cv => cases h2 : ρ a with
      | none => rw [h1, h2] at h; cases cv <;> cases h
      | some av => cases h3 : ρ b with
        | none => rw [h1, h2, h3] at h; cases cv <;> cases h
        | some bv =>
          rw [h1, h2, h3] at h
          cases cv <;> first | (cases h; done) | skip
          rename_i t
          cases h
          refine ⟨if t then ρ' a else ρ' b, ?_, ?_⟩
          · unfold execOp; simp only [ho, bool_of hρ h1]
            simp [asBool]
          · cases t
            · exact hρ _ _ h3
            · exact hρ _ _ h2
  | nilCheck x =>
    unfold apure at h; simp only [ho] at h
    cases h1 : ρ x with
    | none => rw [h1] at h; cases h
    | some a =>
      rw [h1] at h
      have hv := hρ _ _ h1
      cases a <;> (try simp only at h) <;> first | (cases h; done) | skip
      case pointer a =>
        cases a with
        | none => cases h
        | some a =>
          cases h
          obtain ⟨n, off, ni, rfl, hn, hv'⟩ := hv.ptr_some
          exact ⟨ρ' x, by unfold execOp; simp only [ho, hv']; rfl, hv⟩
      case func fn u w' =>
        cases fn <;> simp only at h <;> first | (cases h; done) | skip
        cases h
        generalize hy : ρ' x = y at hv
        cases hv with
        | func _ _ _ us vs g1 g2 => exact ⟨_, by unfold execOp; simp only [ho, hy]; rfl, .func _ _ _ _ _ g1 g2⟩
      case iface t u =>
        cases h
        generalize hy : ρ' x = y at hv
        cases hv with
        | iface _ _ u' g => exact ⟨_, by unfold execOp; simp only [ho, hy]; rfl, .iface _ _ _ g⟩
  | binOp op t x y yt => exact meets_binOp hE hρ ho h w
  | unOp op t x => exact meets_unOp hρ ho h w
  | convert s d x => exact meets_convert hE hρ ho hc h w
  | makeInterface t x =>
    unfold apure at h; simp only [ho] at h
    cases ht : E.ty.get t with
    | none => rw [ht] at h; cases h
    | some ti => cases h1 : ρ x with
      | none => rw [ht, h1] at h; cases h
      | some a =>
        rw [ht, h1] at h
        simp only at h
        have hu := (hE.ty _ _ ht).und
        have : v = .iface t a ∧ P.concrete t = true := by
          unfold Program.concrete
          rw [hu]
          cases hd : ti.und <;> simp only [hd] at h <;> first | (cases h; done) | (cases h; exact ⟨rfl, rfl⟩)
        obtain ⟨rfl, hco⟩ := this
        refine ⟨.iface t (ρ' x), ?_, .iface _ _ _ (hρ _ _ h1)⟩
        unfold execOp; simp only [ho]
        simp [run_makeInterface w t (ρ' x) hco]
  | makeFunc fn first captured =>
    unfold apure at h; simp only [ho] at h
    cases h1 : evalL ρ first.toList with
    | none => rw [h1] at h; cases h
    | some u => cases h2 : evalL ρ captured.toList with
      | none => rw [h1, h2] at h; cases h
      | some u' =>
        rw [h1, h2] at h
        simp only at h
        cases h
        refine ⟨.func fn (first.map ρ') (captured.map ρ'), by unfold execOp; simp only [ho]; rfl, ?_⟩
        have e1 : first.map ρ' = (first.toList.map ρ').toArray := by apply array_eq_of_toList; simp
        have e2 : captured.map ρ' = (captured.toList.map ρ').toArray := by apply array_eq_of_toList; simp
        rw [e1, e2]
        exact .func _ _ _ _ _ (evalL_LR hρ h1) (evalL_LR hρ h2)
  | fieldAddr t x i => exact meets_fieldAddr hE hρ ho h w
  | field t x i => exact meets_field hE hρ ho h w
  | indexAddr t x i => exact meets_indexAddr hE hρ ho h w
  | index t x i => exact meets_index hE hρ ho h w
  | extract x i =>
    unfold apure at h; simp only [ho] at h
    cases h1 : ρ x with
    | none => rw [h1] at h; cases h
    | some a =>
      rw [h1] at h
      cases a <;> (try simp only at h) <;> first | (cases h; done) | skip
      rename_i vs
      have hv := hρ _ _ h1
      cases hxv : ρ' x with
      | tuple ws =>
        rw [hxv] at hv
        have hl : LR ι vs.toList ws.toList := by cases hv with | tuple _ _ hh => exact hh
        obtain ⟨y, hy, hvy⟩ := hl.get h
        have hy' : ws[i]? = some y := by simpa using hy
        refine ⟨y, ?_, hvy⟩
        unfold execOp; simp only [ho, hxv]
        simp [Instr.extract, hy']
      | _ => rw [hxv] at hv; cases hv
  | build t parts => exact meets_build hE hρ ho h w
  | call c =>
    unfold apure at h; simp only [ho] at h
    cases hcc : c.callee with
    | builtin b =>
      cases b <;> simp only [hcc] at h <;> first | (cases h; done) | skip
      all_goals
        cases h1 : evalL ρ c.args.toList with
        | none => rw [h1] at h; cases h
        | some vs =>
          rw [h1] at h
          have hl := evalL_LR hρ h1
          cases vs with
          | nil => cases h
          | cons v0 vs =>
            simp only at h
            -- one argument alone, or integers
            generalize hg : c.args.toList.map ρ' = ws at hl
            have hargs : (c.args.map ρ').toList = ws := by simpa using hg
            cases vs with
            | nil =>
              simp only [max2] at h; cases h
              cases hl with
              | cons _ y _ ys hy hs =>
                cases hs
                refine ⟨y, ?_, hy⟩
                unfold execOp; simp only [ho, resolve, hcc]
                simp [invoke, builtin, Builtin.max_, Builtin.min_, hg]
            | cons v1 vs =>
              cases v0 <;> cases v1 <;> first | (simp only [max2] at h; cases h; done) | skip
              rename_i k a k' b
              have hints : ∀ {vs ws : List Value} {more : Bool} {k : IntKind} {a : Int} {r : Value}, LR ι vs ws → max2 more (.int k a) vs = some r → ws = vs := by
                intro vs
                induction vs with
                | nil => intro ws more k a r hl _; cases hl; rfl
                | cons u us ih =>
                  intro ws more k a r hl hm
                  cases hl with
                  | cons _ y _ ys hy hs =>
                    cases u <;> simp only [max2] at hm <;> first | (cases hm; done) | skip
                    rw [ih hs hm, hy.plain_eq.1 _ _ rfl]
              cases hl with
              | cons _ y _ ys hy hs =>
                have e0 := hy.plain_eq.1 _ _ rfl
                have e1 := hints hs h
                subst e0 e1
                first
                  | (obtain ⟨g1, g2⟩ := max2_run (P := P) w h rfl
                     refine ⟨v, ?_, plainV_VR g2⟩
                     unfold execOp; simp only [ho, resolve, hcc]
                     simp only [Sem.run_bind, Sem.run_pure, Result.andThen_ok, invoke, builtin, Builtin.max_, hargs]
                     rw [g1]; rfl)
                  | (obtain ⟨g1, g2⟩ := min2_run (P := P) w h rfl
                     refine ⟨v, ?_, plainV_VR g2⟩
                     unfold execOp; simp only [ho, resolve, hcc]
                     simp only [Sem.run_bind, Sem.run_pure, Result.andThen_ok, invoke, builtin, Builtin.min_, hargs]
                     rw [g1]; rfl)
    | _ => simp only [hcc] at h; cases h
  | _ => unfold apure at h; simp only [ho] at h; cases h

end
end Go.Sh

namespace Go.Sh
open Go

variable [Sg : Sig]

/-! ### cells -/
omit Sg in
theorem piece_get {c : Array Value} {d n i : Nat} {v : Value} (h : (piece c d n)[i]? = some v) : c[d + i]? = some v ∧ i < n := by
  unfold piece at h
  by_cases hi : i < n
  · rw [List.getElem?_take_of_lt hi, List.getElem?_drop] at h
    exact ⟨by simpa using h, hi⟩
  · rw [List.getElem?_eq_none] at h
    · cases h
    · rw [List.length_take]; omega

theorem SR.cells {ι : Inj} {s : St} {w : World} (h : SR ι s w) {n : Nat} {cs : List Value} {esz : Option Nat} {ro : Bool} {ni : NI}
    (hn : s.heap.get n = some (.cells cs esz ro)) (hni : ι n = some ni) : OR ι w ni (.cells cs esz ro) := by
  obtain ⟨mi, h1, h2⟩ := h.obj n _ hn
  rw [hni] at h1; cases h1; exact h2

omit Sg in
theorem cell_at {w : World} {b : Nat} {c : Array Value} {e : TypeId} {fr : Nat × Nat} (h : w.heap[b]? = some (.cells c e fr)) (o : Nat) : w.cell? ⟨b, o, none⟩ = c[o]? := by
  simp [World.cell?, h]

omit Sg in
theorem run_loadRow {P : Program} {w : World} {b : Nat} {c : Array Value} {e : TypeId} {fr : Nat × Nat} (h : w.heap[b]? = some (.cells c e fr)) (o : Nat) (l : List Value)
    (hl : ∀ (i : Nat) v, l[i]? = some v → c[o + i]? = some v) : (loadCells ⟨b, o, none⟩ l.length).run P w = .ok ⟨l⟩ w := by
  have := run_loadCells_list (P := P) w ⟨b, o, none⟩ l (fun j v hj => by rw [add_spot, cell_at h]; exact hl j v hj)
  simpa using this

/-- Some cells of a row that the shadow holds. -/
theorem SR.row' {ι : Inj} {s : St} {w : World} (h : SR ι s w) {n : Nat} {cs : List Value} {esz : Option Nat} {ro : Bool} {ni : NI}
    (hn : s.heap.get n = some (.cells cs esz ro)) (hni : ι n = some ni) {off k : Nat} {r : List Value} (hr : takeN k (cs.drop off) = some r) :
    ∃ r', LR ι r r' ∧ r'.length = k ∧ (∀ P, (loadCells ⟨ni.blk, ni.d + off, none⟩ k).run P w = .ok ⟨r'⟩ w) ∧ ∀ k, esz = some k → ∀ v ∈ r', isCell v = true := by
  obtain ⟨c, e, fr, h1, h2, h3, h4, h5, _, _, _, h6⟩ := h.cells hn hni
  obtain ⟨hr1, hr2⟩ := takeN_eq hr
  subst hr1
  refine ⟨((piece c ni.d ni.sa).drop off).take k, (h5.drop off).take k, ?_, ?_, fun k hk v hv => (h6 k hk).2 v (List.mem_of_mem_drop (List.mem_of_mem_take (List.mem_of_mem_drop (List.mem_of_mem_take hv))))⟩
  · have := h5.length
    rw [List.length_take, List.length_drop, ← this, ← List.length_drop]; omega
  · intro P
    have hlen : (((piece c ni.d ni.sa).drop off).take k).length = k := by
      have := h5.length
      rw [List.length_take, List.length_drop, ← this, ← List.length_drop]; omega
    have := run_loadRow (P := P) h1 (ni.d + off) (((piece c ni.d ni.sa).drop off).take k) (fun i v hi => by
      by_cases hik : i < k
      · rw [List.getElem?_take_of_lt hik, List.getElem?_drop] at hi
        have := (piece_get hi).1
        rwa [← Nat.add_assoc] at this
      · rw [List.getElem?_eq_none (by rw [hlen]; omega)] at hi; cases hi)
    rwa [hlen] at this

theorem SR.row {ι : Inj} {s : St} {w : World} (h : SR ι s w) {n : Nat} {cs : List Value} {esz : Option Nat} {ro : Bool} {ni : NI}
    (hn : s.heap.get n = some (.cells cs esz ro)) (hni : ι n = some ni) {off k : Nat} {r : List Value} (hr : takeN k (cs.drop off) = some r) :
    ∃ r', LR ι r r' ∧ r'.length = k ∧ ∀ P, (loadCells ⟨ni.blk, ni.d + off, none⟩ k).run P w = .ok ⟨r'⟩ w :=
  let ⟨r', h1, h2, h3, _⟩ := h.row' hn hni hr
  ⟨r', h1, h2, h3⟩

theorem SR.one {ι : Inj} {s : St} {w : World} (h : SR ι s w) {n : Nat} {cs : List Value} {esz : Option Nat} {ro : Bool} {ni : NI}
    (hn : s.heap.get n = some (.cells cs esz ro)) (hni : ι n = some ni) {off : Nat} {v : Value} (hv : cs[off]? = some v) :
    ∃ v', VR ι v v' ∧ w.cell? ⟨ni.blk, ni.d + off, none⟩ = some v' := by
  obtain ⟨c, e, fr, h1, h2, h3, h4, h5, _⟩ := h.cells hn hni
  obtain ⟨y, hy, hvy⟩ := h5.get hv
  exact ⟨y, hvy, by rw [cell_at h1]; exact (piece_get hy).1⟩

theorem aload_run {E : Env} {P : Program} (hE : E.Ok P) {ι : Inj} {s : St} {w : World} (h : SR ι s w) {t n off : Nat} {v : Value} {ni : NI} (hni : ι n = some ni)
    (hv : aload E s t ⟨n, off, none⟩ = some v) : ∃ v', (loadVar t ⟨ni.blk, ni.d + off, none⟩).run P w = .ok v' w ∧ VR ι v v' := by
  unfold aload at hv
  cases ht : E.ty.get t with
  | none => rw [ht] at hv; cases hv
  | some ti => cases hg : s.heap.get n with
    | none => simp only [ht, hg] at hv; cases hv
    | some o =>
      simp only [ht, hg] at hv
      cases o <;> (try simp only at hv) <;> first | (cases hv; done) | skip
      rename_i cs esz ro
      simp only [Option.isSome_none, cond_false] at hv
      have hT := hE.ty _ _ ht
      unfold partAt at hv
      cases ha : isAgg ti.und with
      | true =>
        simp only [ha, cond_true] at hv
        cases hr : takeN ti.size (cs.drop off) with
        | none => rw [hr] at hv; cases hv
        | some r =>
          rw [hr] at hv; cases hv
          obtain ⟨r', h1, _, h2⟩ := h.row hg hni hr
          exact ⟨.agg ⟨r'⟩, by simp [loadVar, run_isAgg w hT.und, ha, hT.run_size, h2 P], .agg _ _ h1⟩
      | false =>
        simp only [ha, cond_false] at hv
        obtain ⟨v', h1, h2⟩ := h.one hg hni (off := off) (by simpa [List.head?_drop] using hv)
        exact ⟨v', by simp [loadVar, run_isAgg w hT.und, ha, h2], h1⟩

/-! ### '==' -/
omit Sg in
theorem frozen_none {w : World} {b : Nat} {c : Array Value} {e : TypeId} (h : w.heap[b]? = some (.cells c e (0, 0))) (o : Nat) : w.frozen? ⟨b, o, none⟩ = false := by
  simp [World.frozen?, h]

theorem SR.exact {ι : Inj} {s : St} {w : World} (h : SR ι s w) {a : Addr} {v' : Value} (hl : liveExact s a = true) (hv : VR ι (.pointer (some a)) v') :
    ∃ n off ni, a = ⟨n, off, none⟩ ∧ ι n = some ni ∧ v' = .pointer (some ⟨ni.blk, ni.d + off, none⟩) ∧ (∃ o, s.heap.get n = some o ∧ o.wr = true) ∧ ∃ c e, w.heap[ni.blk]? = some (.cells c e (0, 0)) := by
  obtain ⟨n, off, ni, rfl, hni, hv'⟩ := hv.ptr_some
  unfold liveExact at hl
  cases hg : s.heap.get n with
  | none => simp [hg] at hl
  | some o =>
    simp only [hg] at hl
    split at hl
    · rename_i cs heq
      cases heq
      obtain ⟨c, e, fr, h1, _, _, _, _, _, h7, _⟩ := h.cells hg hni
      have := h7 rfl
      subst this
      exact ⟨n, off, ni, rfl, hni, hv', ⟨_, hg, rfl⟩, c, e, h1⟩
    · cases hl

omit Sg in
theorem run_sameAddr {P : Program} {w : World} {b b' o o' : Nat} {c c' : Array Value} {e e' : TypeId} (h : w.heap[b]? = some (.cells c e (0, 0))) (h' : w.heap[b']? = some (.cells c' e' (0, 0))) :
    (sameAddr ⟨b, o, none⟩ ⟨b', o', none⟩).run P w = .ok (decide (b = b') && decide (o = o')) w := by
  by_cases hb : b = b'
  · subst hb
    by_cases ho : o = o'
    · subst ho; simp [sameAddr]
    · have : ((⟨b, o, none⟩ : Addr) == ⟨b, o', none⟩) = false := by simp [ho]
      simp [sameAddr, ho, this]
  · have hs : w.shape? b = some (e, c.size) := by simp [World.shape?, h]
    have hs' : w.shape? b' = some (e', c'.size) := by simp [World.shape?, h']
    have hf := fun o => frozen_none h o
    have hf' := fun o => frozen_none h' o
    simp [sameAddr, hb, hf, hf', noView, viewAt, hs, hs', mayBeOne, stringish]

theorem aeqF_run {E : Env} {P : Program} (hE : E.Ok P) {ι : Inj} {w : World} {d : Nat} {go : Nat → Value → Value → Option Bool}
    (hgo : ∀ t x y r x' y', go t x y = some r → VR ι x x' → VR ι y y' → (Op.equalIn d t x' y').run P w = .ok r w) {xs ys : List Value} {xs' ys' : Array Value}
    (hx : LR ι xs xs'.toList) (hy : LR ι ys ys'.toList) : ∀ {fs : List Field} {r : Bool}, aeqF E go xs ys fs = some r → (Op.eqFields d xs' ys' fs).run P w = .ok r w := by
  intro fs
  induction fs with
  | nil => intro r h; simp [aeqF] at h; subst h; simp [Op.eqFields]
  | cons f fs ih =>
    intro r h
    unfold aeqF at h
    by_cases hn : f.name = "_"
    · rw [if_pos hn] at h
      unfold Op.eqFields
      rw [if_neg (by simp [hn])]
      exact ih h
    · rw [if_neg hn] at h
      unfold Op.eqFields
      rw [if_pos hn]
      cases ht : E.ty.get f.type with
      | none => rw [ht] at h; cases h
      | some tf =>
        simp only [ht] at h
        cases ha : partAt tf xs f.offset with
        | none => rw [ha] at h; cases h
        | some a => cases hb : partAt tf ys f.offset with
          | none => rw [ha, hb] at h; cases h
          | some b =>
            simp only [ha, hb] at h
            obtain ⟨a', h1, h2⟩ := partAt_run (hE.ty _ _ ht) hx ha w
            obtain ⟨b', h3, h4⟩ := partAt_run (hE.ty _ _ ht) hy hb w
            cases hg : go f.type a b with
            | none => rw [hg] at h; cases h
            | some r0 =>
              have h5 := hgo _ _ _ _ _ _ hg h2 h4
              rw [hg] at h
              cases r0
              · simp only at h; cases h
                simp [h1, h3, h5]
              · simp only at h
                have := ih h
                simp [h1, h3, h5, this]

/-- An array's '==', element by element. -/
def eqFrom (P : Program) (d : Nat) (e : TypeId) (n : Nat) (xs ys : Array Value) : List Nat → Sem Bool
  | [] => pure true
  | i :: is => do
    let a ← part e xs (i * n)
    let b ← part e ys (i * n)
    let r ← Op.equalIn d e a b
    if (!r) = true then pure false else eqFrom P d e n xs ys is

omit Sg in
theorem run_equalIn_array {P : Program} {w : World} (d : Nat) (t : TypeId) (len : Nat) (e : TypeId) (n : Nat) (xs ys : Array Value) (ht : P.underlying t = some (.array len e))
    (hs : (sizeOf e).run P w = .ok n w) : (Op.equalIn (d + 1) t (.agg xs) (.agg ys)).run P w = (eqFrom P d e n xs ys (List.range' 0 len)).run P w := by
  simp only [Op.equalIn, Sem.run_bind, run_underlying ht, Result.andThen_ok, hs]
  rw [Std.Legacy.Range.forIn_eq_forIn_range']
  simp only [Std.Legacy.Range.size, Nat.sub_zero, Nat.add_sub_cancel, Nat.div_one]
  generalize List.range' 0 len 1 = is
  clear ht hs
  induction is generalizing w with
  | nil => simp [eqFrom]
  | cons i is ih =>
    simp only [List.forIn_cons, eqFrom, Sem.run_bind, Sem.run_ite]
    generalize (part e xs (i * n)).run P w = r1
    cases r1 with
    | ok a w1 =>
      simp only [Result.andThen_ok]
      generalize (part e ys (i * n)).run P w1 = r2
      cases r2 with
      | ok b w2 =>
        simp only [Result.andThen_ok]
        generalize (Op.equalIn d e a b).run P w2 = r3
        cases r3 with
        | ok r w3 =>
          cases r
          · simp only [Result.andThen_ok, Bool.not_false, if_true, Sem.run_pure]
          · simp only [Result.andThen_ok, Bool.not_true, Bool.false_eq_true, if_false, Sem.run_pure]
            exact ih
        | halt x w3 => simp [Result.andThen]
      | halt x w2 => simp [Result.andThen]
    | halt x w1 => simp [Result.andThen]

theorem aeqA_run {E : Env} {P : Program} (hE : E.Ok P) {ι : Inj} {w : World} {d e : Nat} {te : TI} (he : E.ty.get e = some te) {go : Value → Value → Option Bool}
    (hgo : ∀ x y r x' y', go x y = some r → VR ι x x' → VR ι y y' → (Op.equalIn d e x' y').run P w = .ok r w) {xs ys : List Value} {xs' ys' : Array Value}
    (hx : LR ι xs xs'.toList) (hy : LR ι ys ys'.toList) : ∀ {n i : Nat} {r : Bool}, aeqA go te n (i * te.size) xs ys = some r →
      (eqFrom P d e te.size xs' ys' (List.range' i n)).run P w = .ok r w := by
  intro n
  induction n with
  | zero => intro i r h; simp [aeqA] at h; subst h; simp [eqFrom]
  | succ n ih =>
    intro i r h
    unfold aeqA at h
    simp only [List.range'_succ, eqFrom]
    cases ha : partAt te xs (i * te.size) with
    | none => rw [ha] at h; cases h
    | some a => cases hb : partAt te ys (i * te.size) with
      | none => rw [ha, hb] at h; cases h
      | some b =>
        simp only [ha, hb] at h
        obtain ⟨a', h1, h2⟩ := partAt_run (hE.ty _ _ he) hx ha w
        obtain ⟨b', h3, h4⟩ := partAt_run (hE.ty _ _ he) hy hb w
        cases hg : go a b with
        | none => rw [hg] at h; cases h
        | some r0 =>
          have h5 := hgo _ _ _ _ _ hg h2 h4
          rw [hg] at h
          cases r0
          · simp only at h; cases h
            simp [h1, h3, h5]
          · simp only at h
            have := ih (i := i + 1) (r := r) (by rw [Nat.add_mul, Nat.one_mul]; exact h)
            simp [h1, h3, h5, this]

theorem aeq_run {E : Env} {P : Program} (hE : E.Ok P) {ι : Inj} {s : St} {w : World} (hs : SR ι s w) : ∀ (n : Nat) {t : Nat} {x y : Value} {r : Bool} {x' y' : Value},
    aeq E s n t x y = some r → VR ι x x' → VR ι y y' → ∀ d, n ≤ d → (Op.equalIn d t x' y').run P w = .ok r w := by
  intro n
  induction n with
  | zero => intro t x y r x' y' h; simp [aeq] at h
  | succ n ih =>
    intro t x y r x' y' h hx hy d hd
    obtain ⟨d, rfl⟩ : ∃ k, d = k + 1 := ⟨d - 1, by omega⟩
    unfold aeq at h
    cases ht : E.ty.get t with
    | none => rw [ht] at h; cases h
    | some ti =>
      simp only [ht] at h
      have hT := hE.ty _ _ ht
      have hu := hT.und
      split at h
      · rename_i hd1; rw [hd1] at hu; cases h
        rw [hx.plain_eq.2.1 _ rfl, hy.plain_eq.2.1 _ rfl]
        exact run_equalIn_bool w d t _ _ hu
      · rename_i hd1; rw [hd1] at hu
        rw [hx.plain_eq.1 _ _ rfl, hy.plain_eq.1 _ _ rfl]
        split at h
        · rename_i hk; subst hk; cases h
          exact run_equalIn_int w d t _ _ _ _ hu
        · cases h
      · rename_i hd1; rw [hd1] at hu; cases h
        rw [hx.plain_eq.2.2 _ rfl, hy.plain_eq.2.2 _ rfl, run_equalIn_string w d t _ _ hu, toList_eq, toList_eq]
      · rename_i b hd1; rw [hd1] at hu; cases h
        cases hx
        cases b with
        | none => cases hy; simp [Op.equalIn, run_underlying hu]
        | some b => obtain ⟨_, _, _, _, _, rfl⟩ := hy.ptr_some; simp [Op.equalIn, run_underlying hu]
      · rename_i hd1; rw [hd1] at hu; cases h
        obtain ⟨_, _, _, _, _, rfl⟩ := hx.ptr_some
        cases hy
        simp [Op.equalIn, run_underlying hu]
      · rename_i e a b hd1; rw [hd1] at hu
        cases he : E.ty.get e with
        | none => rw [he] at h; cases h
        | some te =>
          simp only [he] at h
          have hsz := (hE.ty _ _ he).run_size (P := P) w
          by_cases hz : te.size = 0
          · simp [hz] at h
          · simp only [nat_beq_eq, hz, decide_false, cond_false] at h
            cases hl : (liveExact s a && liveExact s b) with
            | false => rw [hl] at h; cases h
            | true =>
              rw [hl] at h
              simp only [Bool.and_eq_true] at hl
              simp only [cond_true] at h
              cases h
              obtain ⟨n1, o1, ni, rfl, hni, rfl, ⟨p1, hg1, hr1⟩, c1, e1, hw1⟩ := hs.exact hl.1 hx
              obtain ⟨n2, o2, mi, rfl, hmi, rfl, ⟨p2, hg2, hr2⟩, c2, e2, hw2⟩ := hs.exact hl.2 hy
              have hrun := run_sameAddr (P := P) (o := ni.d + o1) (o' := mi.d + o2) hw1 hw2
              have hval : (decide (ni.blk = mi.blk) && decide (ni.d + o1 = mi.d + o2)) = (decide (n1 = n2) && decide (o1 = o2)) := by
                by_cases hn : n1 = n2
                · subst hn
                  rw [hni] at hmi; cases hmi
                  simp
                · have : ni.blk ≠ mi.blk := fun e => hn (hs.inj _ _ _ _ _ _ hg1 hg2 (.inl hr1) hni hmi e)
                  simp [hn, this]
              simp only [nat_beq_eq]
              rw [← hval, ← hrun]
              simp [Op.equalIn, run_underlying hu, hsz, hz]
      · rename_i b hd1; rw [hd1] at hu; cases h
        cases hx
        rename_i b2 _ _ _
        cases hy <;> simp [Op.equalIn, run_underlying hu]
      · rename_i a _ _ hd1; rw [hd1] at hu; cases h
        cases hy
        rcases hx.slice_some with ⟨_, _, _, _, _, _, rfl, _⟩ | ⟨_, _, _, rfl⟩ <;> simp [Op.equalIn, run_underlying hu]
      · rename_i b hd1; rw [hd1] at hu; cases h
        cases hx
        cases hy <;> simp [Op.equalIn, run_underlying hu]
      · rename_i hd1; rw [hd1] at hu; cases h
        cases hx
        cases hy
        simp [Op.equalIn, run_underlying hu]
      · rename_i hd1; rw [hd1] at hu; cases h
        cases hx; cases hy
        simp [Op.equalIn, run_underlying hu]
      · rename_i hd1; rw [hd1] at hu; cases h
        cases hx; cases hy
        simp [Op.equalIn, run_underlying hu]
      · rename_i hd1; rw [hd1] at hu; cases h
        cases hx; cases hy
        simp [Op.equalIn, run_underlying hu]
      · rename_i hd1; rw [hd1] at hu; cases h
        cases hx; cases hy
        simp [Op.equalIn, run_underlying hu]
      · rename_i hd1; rw [hd1] at hu; cases h
        cases hx; cases hy
        simp [Op.equalIn, run_underlying hu]
      · rename_i fs xs ys hd1; rw [hd1] at hu
        have hst := (hT.eqs (by rw [hd1]; rfl)).2
        have hfo : P.fieldsOf t = fs := by simp [Program.fieldsOf, hu]
        cases hx with
        | agg xs1 xs' hx1 =>
          cases hy with
          | agg ys1 ys' hy1 =>
            rw [run_equalIn_agg w d t ⟨xs'⟩ ⟨ys'⟩ (by rw [hfo]; exact hu) hst, hfo]
            exact aeqF_run hE (fun t x y r x' y' hg hxx hyy => ih hg hxx hyy d (by omega)) hx1 hy1 h
      · rename_i len e xs ys hd1; rw [hd1] at hu
        cases he : E.ty.get e with
        | none => rw [he] at h; cases h
        | some te =>
          simp only [he] at h
          have hsz := (hE.ty _ _ he).run_size (P := P) w
          cases hx with
          | agg xs1 xs' hx1 =>
            cases hy with
            | agg ys1 ys' hy1 =>
              rw [run_equalIn_array d t len e te.size ⟨xs'⟩ ⟨ys'⟩ hu hsz]
              exact aeqA_run hE he (fun x y r x' y' hg hxx hyy => ih hg hxx hyy d (by omega)) hx1 hy1 (by simpa using h)
      · cases h

end Go.Sh

namespace Go.Sh
open Go

variable [Sg : Sig]

/-! ### slices of slices -/
inductive OV (ι : Inj) : Option Value → Option Value → Prop
  | none : OV ι none none
  | some (v w : Value) (h : VR ι v w) : OV ι (some v) (some w)

theorem oev_OV {ι : Inj} {ρ : Operand → Option Value} {ρ' : Operand → Value} (hρ : Env' ι ρ ρ') {x : Option Operand} {v : Option Value} (h : oev ρ x = some v) : OV ι v (x.map ρ') := by
  cases x with
  | none => simp [oev] at h; subst h; exact .none
  | some x =>
    simp only [oev] at h
    cases hx : ρ x with
    | none => rw [hx] at h; cases h
    | some a => rw [hx] at h; cases h; exact .some _ _ (hρ _ _ hx)

theorem bnd_run {P : Program} {ι : Inj} {v v' : Value} {y y' n : Nat} (h : bnd v y = some n) (hv : VR ι v v') (hy : y ≤ y') (c : BoundsCode) (w : World) :
    (Instr.sliceBound v' y' c).run P w = .ok n w ∧ n ≤ y := by
  cases v <;> simp only [bnd] at h <;> first | (cases h; done) | skip
  rename_i k i
  rw [hv.plain_eq.1 _ _ rfl]
  split at h
  · rename_i hb
    cases h
    have hb' : 0 ≤ i ∧ i ≤ (y' : Int) := ⟨hb.1, by omega⟩
    exact ⟨by simp [Instr.sliceBound, asIntOf, hb'], by omega⟩
  · cases h

theorem bounds_run {P : Program} {ι : Inj} {len cap cap' : Nat} {lo hi mx lo' hi' mx' : Option Value} {l h m : Nat} (hb : bounds len cap lo hi mx = some (l, h, m))
    (hl : OV ι lo lo') (hh : OV ι hi hi') (hm : OV ι mx mx') (hc : cap ≤ cap') (b : Bool) (w : World) :
    (Instr.sliceBounds b len cap' lo' hi' mx').run P w = .ok (l, h, if mx.isSome then m else cap') w ∧ l ≤ h ∧ h ≤ m ∧ m ≤ cap ∧ (mx = none → m = cap) := by
  unfold bounds at hb
  -- the parts, one by one
  have key : ∀ m0, obnd mx cap cap = some m0 → (match obnd hi len m0 with | none => none | some h => cond (Nat.ble h m0) (match obnd lo 0 h with | none => none | some l => some (l, h, m0)) none) = some (l, h, m) →
      m = m0 ∧ obnd hi len m = some h ∧ h ≤ m ∧ obnd lo 0 h = some l := by
    intro m0 _ h1
    cases hoh : obnd hi len m0 with
    | none => rw [hoh] at h1; cases h1
    | some h0 =>
      simp only [hoh] at h1
      cases hle : Nat.ble h0 m0 with
      | false => rw [hle] at h1; cases h1
      | true =>
        simp only [hle, cond_true] at h1
        cases hol : obnd lo 0 h0 with
        | none => rw [hol] at h1; cases h1
        | some l0 =>
          simp only [hol] at h1
          cases h1
          exact ⟨rfl, hoh, Nat.le_of_ble_eq_true hle, hol⟩
  cases hom : obnd mx cap cap with
  | none => rw [hom] at hb; cases hb
  | some m0 =>
    simp only [hom] at hb
    cases hm with
    | none =>
      simp only [obnd] at hom; cases hom
      cases hh with
      | none =>
        obtain ⟨rfl, k1, k2, k3⟩ := key _ rfl hb
        simp only [obnd] at k1; cases k1
        cases hl with
        | none => simp only [obnd] at k3; cases k3; exact ⟨by simp [Instr.sliceBounds], by omega, k2, by omega, fun _ => rfl⟩
        | some v v' hv =>
          simp only [obnd] at k3
          have g := fun c => bnd_run (P := P) k3 hv (Nat.le_refl _) c w
          exact ⟨by simp [Instr.sliceBounds, (g _).1], (g .sliceB).2, k2, by omega, fun _ => rfl⟩
      | some u u' hu =>
        obtain ⟨rfl, k1, k2, k3⟩ := key _ rfl hb
        simp only [obnd] at k1
        have gh := fun c => bnd_run (P := P) k1 hu hc c w
        cases hl with
        | none => simp only [obnd] at k3; cases k3; exact ⟨by simp [Instr.sliceBounds, (gh _).1], by omega, k2, by omega, fun _ => rfl⟩
        | some v v' hv =>
          simp only [obnd] at k3
          have g := fun c => bnd_run (P := P) k3 hv (Nat.le_refl _) c w
          exact ⟨by simp [Instr.sliceBounds, (g _).1, (gh _).1], (g .sliceB).2, k2, by omega, fun _ => rfl⟩
    | some x x' hx =>
      simp only [obnd] at hom
      have gm := fun c => bnd_run (P := P) hom hx hc c w
      cases hh with
      | none => cases hb
      | some u u' hu =>
        obtain ⟨rfl, k1, k2, k3⟩ := key _ (by simp only [obnd]; exact hom) hb
        simp only [obnd] at k1
        have gh := fun c => bnd_run (P := P) k1 hu (Nat.le_refl _) c w
        cases hl with
        | none => simp only [obnd] at k3; cases k3; exact ⟨by simp [Instr.sliceBounds, (gm _).1, (gh _).1], by omega, k2, (gm .index).2, fun e => by cases e⟩
        | some v v' hv =>
          simp only [obnd] at k3
          have g := fun c => bnd_run (P := P) k3 hv (Nat.le_refl _) c w
          exact ⟨by simp [Instr.sliceBounds, (gm _).1, (g _).1, (gh _).1], (g .sliceB).2, k2, (gm .index).2, fun e => by cases e⟩

omit Sg in
theorem extract_list (b : ByteArray) (l h : Nat) (hlh : l ≤ h) : b.extract l h = ⟨((b.data.toList.take h).drop l).toArray⟩ := by
  have : (b.extract l h).data = b.data.extract l h := by simp
  cases hb : b.extract l h with
  | mk d =>
    rw [hb] at this
    simp only at this
    subst this
    congr 1
    apply Array.ext'
    simp [Array.toList_extract, List.extract]
    rw [List.drop_take]

theorem aslice_run {E : Env} {P : Program} (hE : E.Ok P) {ι : Inj} {s : St} {w : World} (hs : SR ι s w) {t : Nat} {x x' : Value} {lo hi mx lo' hi' mx' : Option Value} {v : Value}
    (h : aslice E s t x lo hi mx = some v) (hx : VR ι x x') (hl : OV ι lo lo') (hh : OV ι hi hi') (hm : OV ι mx mx') :
    ∃ v', (Instr.sliceAt t x' lo' hi' mx').run P w = .ok v' w ∧ VR ι v v' := by
  unfold aslice at h
  cases ht : E.ty.get t with
  | none => rw [ht] at h; cases h
  | some ti =>
    simp only [ht] at h
    have hu := (hE.ty _ _ ht).und
    split at h
    · rename_i b hd; rw [hd] at hu
      cases hmx : mx.isSome with
      | true => rw [hmx] at h; cases h
      | false =>
        simp only [hmx, cond_false] at h
        have hmn : mx = none := by cases mx with | none => rfl | some _ => cases hmx
        subst hmn
        cases hm
        cases hb : bounds b.size b.size lo hi none with
        | none => rw [hb] at h; cases h
        | some lhm =>
          obtain ⟨l, hh', m⟩ := lhm
          simp only [hb] at h
          cases h
          obtain ⟨g1, g2, _⟩ := bounds_run (P := P) hb hl hh .none (Nat.le_refl _) false w
          rw [hx.plain_eq.2.2 _ rfl]
          refine ⟨_, ?_, .string _⟩
          simp [Instr.sliceAt, Instr.slice, run_underlying hu, g1, extract_list b l hh' g2]
    · rename_i e len cap hd; rw [hd] at hu
      cases he : E.ty.get e with
      | none => simp only [he] at h; cases h
      | some te =>
      have hsz := (hE.ty _ _ he).run_size (P := P) w
      cases hb : bounds len cap lo hi mx with
      | none => simp only [he, hb] at h; cases h
      | some lhm =>
        obtain ⟨l, hh', m⟩ := lhm
        simp only [he, hb] at h
        cases h
        obtain ⟨g1, g2, g3, g4, g5⟩ := bounds_run (P := P) hb hl hh hm (Nat.le_refl cap) true w
        have hm' : (if mx.isSome = true then m else cap) = m := by
          cases mx with
          | none => simp [g5 rfl]
          | some _ => simp
        rw [hm'] at g1
        cases hx
        refine ⟨.slice none (hh' - l) (m - l), ?_, .snil _ _⟩
        simp only [Instr.sliceAt, Instr.slice, Sem.run_bind, run_underlying hu, Result.andThen_ok, g1]
        simp [hsz]
    · rename_i e a len cap hd; rw [hd] at hu
      cases he : E.ty.get e with
      | none => simp only [he] at h; cases h
      | some te =>
        have hsz := (hE.ty _ _ he).run_size (P := P) w
        cases hg : s.heap.get a.block with
        | none => simp only [he, hg] at h; cases h
        | some o =>
          simp only [he, hg] at h
          cases o <;> (try simp only at h) <;> first | (cases h; done) | skip
          rename_i cs esz ro
          cases hb : bounds len cap lo hi mx with
          | none => simp only [hb] at h; cases h
          | some lhm =>
            obtain ⟨l, hh', m⟩ := lhm
            simp only [hb] at h
            cases hk : (eszOk esz te.size && a.spot.isNone) with
            | false => rw [hk] at h; cases h
            | true =>
              rw [hk] at h
              simp only [cond_true] at h
              cases h
              simp only [Bool.and_eq_true] at hk
              rcases hx.slice_some with ⟨n, off, ni, cap', rfl, hni, rfl, hco, hle⟩ | ⟨a', rfl, rfl, rfl⟩
              · obtain ⟨g1, g2, g3, g4, g5⟩ := bounds_run (P := P) hb hl hh hm hle true w
                have hes : ni.esz = esz := by obtain ⟨c, e', fr, _, _, h3, _⟩ := hs.cells hg hni; exact h3
                have hrun : (Instr.sliceAt t (.slice (some ⟨ni.blk, ni.d + off, none⟩) len cap') lo' hi' mx').run P w =
                    .ok (.slice (some (if (if mx.isSome = true then m else cap') = l then ⟨ni.blk, ni.d + off, none⟩ else ⟨ni.blk, ni.d + off + l * te.size, none⟩)) (hh' - l) ((if mx.isSome = true then m else cap') - l)) w := by
                  simp only [Instr.sliceAt, Instr.slice, Sem.run_bind, run_underlying hu, Result.andThen_ok, g1, hsz, Sem.run_pure]
                  by_cases hml : (if mx.isSome = true then m else cap') = l
                  · simp [hml]
                  · simp [hml, add_spot]
                refine ⟨_, hrun, ?_⟩
                have hstd : ∀ c1 c2, m - l = c1 → CapOk ni (off + l * te.size) c1 c2 → c1 ≤ c2 → VR ι (.slice (some ⟨n, off + l * te.size, none⟩) (hh' - l) (m - l)) (.slice (some ⟨ni.blk, ni.d + off + l * te.size, none⟩) (hh' - l) c2) := by
                  intro c1 c2 e1 hc2 hle2
                  subst e1
                  rw [Nat.add_assoc]
                  exact .slice n _ _ _ _ ni hni hc2 hle2
                by_cases hml : (if mx.isSome = true then m else cap') = l
                · rw [if_pos hml, hml]
                  have : m = l := by
                    cases mx with
                    | none => simp at hml; have := g5 rfl; omega
                    | some _ => simpa using hml
                  have e1 : hh' - l = 0 := by omega
                  have e2 : m - l = 0 := by omega
                  rw [e1, e2, Nat.sub_self]
                  exact .szero _ _
                · rw [if_neg hml]
                  refine hstd _ _ rfl ?_ ?_
                  · cases mx with
                    | some _ => simp; exact .inl rfl
                    | none =>
                      simp
                      have := g5 rfl
                      subst this
                      rcases hco with rfl | ⟨k, hk0, hk1, hk2, hk3⟩
                      · exact .inl rfl
                      · have hkt : k = te.size := by
                          rw [hes] at hk1
                          rw [hk1] at hk
                          simpa [eszOk, nat_beq_eq] using hk.1
                        subst hkt
                        refine .inr ⟨te.size, hk0, hk1, ?_, ?_⟩
                        · rw [Nat.add_assoc, ← Nat.add_mul, show l + (m - l) = m from by omega]; exact hk2
                        · rw [← Nat.add_assoc ni.d, Nat.add_assoc (ni.d + off), ← Nat.add_mul, show l + (cap' - l) = cap' from by omega]; exact hk3
                  · cases mx with
                    | some _ => simp
                    | none => simp; have := g5 rfl; omega
              · obtain ⟨g1, g2, g3, g4, g5⟩ := bounds_run (P := P) hb hl hh hm (Nat.le_refl 0) true w
                have e0 : l = 0 := by omega
                have e1 : hh' = 0 := by omega
                have e2 : m = 0 := by omega
                subst e0 e1 e2
                have hm0 : (if mx.isSome = true then 0 else 0) = 0 := by split <;> rfl
                rw [hm0] at g1
                refine ⟨.slice (some a') 0 0, ?_, by simpa using VR.szero _ _⟩
                simp only [Instr.sliceAt, Instr.slice, Sem.run_bind, run_underlying hu, Result.andThen_ok, g1, hsz, Sem.run_pure]
                simp
    · rename_i n e a hd; rw [hd] at hu
      cases he : E.ty.get e with
      | none => simp only [he] at h; cases h
      | some te =>
        have hsz := (hE.ty _ _ he).run_size (P := P) w
        cases hg : s.heap.get a.block with
        | none => simp only [he, hg] at h; cases h
        | some o =>
          simp only [he, hg] at h
          cases o <;> (try simp only at h) <;> first | (cases h; done) | skip
          rename_i cs esz ro
          cases esz with
          | some k => simp only at h; cases h
          | none =>
            cases hb : bounds n n lo hi mx with
            | none => simp only [hb] at h; cases h
            | some lhm =>
              obtain ⟨l, hh', m⟩ := lhm
              simp only [hb] at h
              cases hk : a.spot.isNone with
              | false => rw [hk] at h; cases h
              | true =>
                rw [hk] at h
                simp only [cond_true] at h
                cases h
                obtain ⟨p, off, ni, rfl, hni, rfl⟩ := hx.ptr_some
                obtain ⟨g1, g2, g3, g4, g5⟩ := bounds_run (P := P) hb hl hh hm (Nat.le_refl n) false w
                have hm' : (if mx.isSome = true then m else n) = m := by
                  cases mx with
                  | none => simp [g5 rfl]
                  | some _ => simp
                rw [hm'] at g1
                have hrun : (Instr.sliceAt t (.pointer (some ⟨ni.blk, ni.d + off, none⟩)) lo' hi' mx').run P w =
                    .ok (.slice (some (if m = l then ⟨ni.blk, ni.d + off, none⟩ else ⟨ni.blk, ni.d + off + l * te.size, none⟩)) (hh' - l) (m - l)) w := by
                  simp only [Instr.sliceAt, Instr.sureAddr, Sem.run_bind, run_underlying hu, Result.andThen_ok, g1, hsz, Sem.run_pure]
                  by_cases hml : m = l
                  · simp [hml]
                  · simp [hml, add_spot]
                refine ⟨_, hrun, ?_⟩
                by_cases hml : m = l
                · have e1 : hh' - l = 0 := by omega
                  have e2 : m - l = 0 := by omega
                  rw [e1, e2]
                  exact .szero _ _
                · rw [if_neg hml, Nat.add_assoc]
                  exact .slice p _ _ _ _ ni hni (.inl rfl) (Nat.le_refl _)
    · cases h

end Go.Sh
