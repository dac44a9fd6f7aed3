/-
  A shadow interpreter for the model's operations: the operations that touch no memory are met, all of them. (No program in it.)
-/
import Derived.Test.YtnhofgbjmofcnaaGreatRShF
namespace Go.Sh
open Go

variable [Sg : Sig]

theorem VR.ptr_some {ι : Inj} {a : Addr} {v' : Value} (h : VR ι (.pointer (some a)) v') : ∃ n off ni, a = ⟨n, off, none⟩ ∧ ι n = some ni ∧ v' = .pointer (some ⟨ni.blk, ni.d + off, none⟩) := by
  cases h with
  | ptr n off ni h => exact ⟨n, off, ni, rfl, h, rfl⟩

omit Sg in
theorem add_spot (b o n : Nat) : (Addr.add ⟨b, o, none⟩ n) = ⟨b, o + n, none⟩ := by
  unfold Addr.add
  by_cases h : n = 0
  · subst h; simp
  · simp [h]

omit Sg in
theorem mapA (l : List Operand) (f : Operand → Value) : (Array.map f l.toArray) = (l.map f).toArray := by simp

section
variable {E : Env} {P : Program} {ι : Inj} {ρ : Operand → Option Value} {ρ' : Operand → Value}

theorem meets_unOp (hρ : Env' ι ρ ρ') {o : Oper} {op : UnOp} {t : TypeId} {x : Operand} {v : Value} (ho : o.op = .unOp op t x) (h : apure E ρ o = some v) (w : World) :
    Meets P ι ρ' o v w := by
  unfold apure at h
  simp only [ho] at h
  cases hx : ρ x with
  | none => rw [hx] at h; cases op <;> cases h
  | some a =>
    rw [hx] at h
    have fin : ∀ a, ρ' x = a → (Op.unary op a).run P w = .ok v w → plainV v = true → Meets P ι ρ' o v w := by
      intro a hx h3 h4
      refine ⟨v, ?_, plainV_VR h4⟩
      unfold execOp
      simp only [ho, hx]
      simp [h3]
    cases op <;> cases a <;> (try simp only at h) <;> first | (cases h; done) | skip
    case neg.int k n =>
      cases h
      exact fin _ (int_of hρ hx) (by simp [Op.unary, Op.intArith]) rfl
    case xor.int k n =>
      refine fin _ (int_of hρ hx) ?_ ?_
      · simp only [aint] at h; cases h; simp [Op.unary, Op.intBits]
      · simp only [aint] at h; cases h; rfl
    case not.bool b =>
      cases h
      exact fin _ (bool_of hρ hx) (by simp [Op.unary]) rfl

theorem meets_convert (hE : E.Ok P) (hρ : Env' ι ρ ρ') {o : Oper} {s d : TypeId} {x : Operand} {v : Value} (ho : o.op = .convert s d x) (hs : cls E o.op = .pure) (h : apure E ρ o = some v) (w : World) :
    Meets P ι ρ' o v w := by
  unfold apure at h
  simp only [ho, cls] at h hs
  cases hds : E.ty.get s with
  | none => rw [hds] at hs; cases hs
  | some ts => cases hdd : E.ty.get d with
    | none => rw [hdd] at h; cases h
    | some td =>
      rw [hdd] at h
      rw [hds, hdd] at hs
      simp only at h hs
      have us := (hE.ty _ _ hds).und
      have ud := (hE.ty _ _ hdd).und
      cases hx : ρ x with
      | none => rw [hx] at h; cases hq : td.und <;> simp [hq] at h
      | some a =>
        rw [hx] at h
        have fin : ∀ a, ρ' x = a → (convert s d a).run P w = .ok v w → plainV v = true → Meets P ι ρ' o v w := by
          intro a hx h3 h4
          refine ⟨v, ?_, plainV_VR h4⟩
          unfold execOp
          simp only [ho, hx]
          simp [h3]
        cases hts : ts.und <;> cases htd : td.und <;> simp only [hts, htd] at hs h us ud <;> first | (cases hs; done) | (cases h; done) | skip
        case int.int k k' =>
          cases a <;> (try simp only at h) <;> first | (cases h; done) | skip
          cases h
          exact fin _ (int_of hρ hx) (by simp [convert, run_underlying us, run_underlying ud, Conv.intToInt]) rfl
        case string.string =>
          cases a <;> (try simp only at h) <;> first | (cases h; done) | skip
          cases h
          exact fin _ (str_of hρ hx) (by simp [convert, run_underlying us, run_underlying ud]) rfl

theorem meets_fieldAddr (hE : E.Ok P) (hρ : Env' ι ρ ρ') {o : Oper} {t : TypeId} {x : Operand} {i : Nat} {v : Value} (ho : o.op = .fieldAddr t x i) (h : apure E ρ o = some v) (w : World) :
    Meets P ι ρ' o v w := by
  unfold apure at h
  simp only [ho] at h
  cases hx : ρ x with
  | none => rw [hx] at h; cases h
  | some a => cases ht : E.ty.get t with
    | none => rw [hx, ht] at h; cases a <;> (try cases h) <;> rename_i a <;> cases a <;> cases h
    | some ti =>
      rw [hx, ht] at h
      cases a <;> first | (cases h; done) | skip
      rename_i a
      cases a with
      | none => cases h
      | some a =>
        simp only at h
        obtain ⟨n, off, ni, rfl, hn, hv'⟩ := (hρ _ _ hx).ptr_some
        have hu := (hE.ty _ _ ht).und
        cases hd : ti.und <;> simp only [hd] at h hu <;> first | (cases h; done) | skip
        rename_i fs
        cases hf : fs.toList[i]? with
        | none => rw [hf] at h; cases h
        | some f =>
          simp only [hf] at h
          cases htf : E.ty.get f.type with
          | none => rw [htf] at h; cases h
          | some tf =>
            simp only [htf] at h
            have hsz := (hE.ty _ _ htf).run_size (P := P)
            by_cases hz : tf.size = 0
            · simp [hz] at h
            · simp [nat_beq_eq, hz] at h
              subst h
              have hfa : fs[i]? = some f := by simpa using hf
              refine ⟨.pointer (some ⟨ni.blk, ni.d + (off + f.offset), none⟩), ?_, .ptr n _ ni hn⟩
              unfold execOp
              simp only [ho, hv']
              simp [Instr.fieldAt, run_underlying hu, hfa, Instr.sureAddr, fieldPlace, hsz, hz, add_spot, Nat.add_assoc]

theorem meets_field (hE : E.Ok P) (hρ : Env' ι ρ ρ') {o : Oper} {t : TypeId} {x : Operand} {i : Nat} {v : Value} (ho : o.op = .field t x i) (h : apure E ρ o = some v) (w : World) :
    Meets P ι ρ' o v w := by
  unfold apure at h
  simp only [ho] at h
  cases hx : ρ x with
  | none => rw [hx] at h; cases h
  | some a => cases ht : E.ty.get t with
    | none => rw [hx, ht] at h; cases a <;> cases h
    | some ti =>
      rw [hx, ht] at h
      cases a <;> first | (cases h; done) | skip
      rename_i cs
      simp only at h
      have hvr := hρ _ _ hx
      cases hxv : ρ' x with
      | agg cs' =>
        rw [hxv] at hvr
        have hc : LR ι cs.toList cs'.toList := by cases hvr with | agg _ _ hh => exact hh
        have hu := (hE.ty _ _ ht).und
        cases hd : ti.und <;> simp only [hd] at h hu <;> first | (cases h; done) | skip
        rename_i fs
        cases hf : fs.toList[i]? with
        | none => rw [hf] at h; cases h
        | some f =>
          simp only [hf] at h
          cases htf : E.ty.get f.type with
          | none => rw [htf] at h; cases h
          | some tf =>
            simp only [htf] at h
            obtain ⟨v', h1, h2⟩ := partAt_run (hE.ty _ _ htf) hc h w
            have hfa : fs[i]? = some f := by simpa using hf
            refine ⟨v', ?_, h2⟩
            unfold execOp
            simp only [ho, hxv]
            simp [Instr.field, run_underlying hu, hfa, asAgg, h1]
      | _ => rw [hxv] at hvr; cases hvr

theorem VR.slice_some {ι : Inj} {a : Addr} {len cap : Nat} {v' : Value} (h : VR ι (.slice (some a) len cap) v') :
    (∃ n off ni cap', a = ⟨n, off, none⟩ ∧ ι n = some ni ∧ v' = .slice (some ⟨ni.blk, ni.d + off, none⟩) len cap' ∧ CapOk ni off cap cap' ∧ cap ≤ cap') ∨
    (∃ a', len = 0 ∧ cap = 0 ∧ v' = .slice (some a') 0 0) := by
  cases h with
  | slice n off len cap cap' ni h hc hle => exact .inl ⟨n, off, ni, cap', rfl, h, rfl, hc, hle⟩
  | szero a a' => exact .inr ⟨a', rfl, rfl, rfl⟩

theorem meets_indexAddr (hE : E.Ok P) (hρ : Env' ι ρ ρ') {o : Oper} {t : TypeId} {x i : Operand} {v : Value} (ho : o.op = .indexAddr t x i) (h : apure E ρ o = some v) (w : World) :
    Meets P ι ρ' o v w := by
  unfold apure at h
  simp only [ho] at h
  cases hx : ρ x with
  | none => rw [hx] at h; cases h
  | some a => cases hi : ρ i with
    | none => rw [hx, hi] at h; cases h
    | some iv =>
      rw [hx, hi] at h
      cases iv <;> first | (cases h; done) | skip
      rename_i k n
      have ei := int_of hρ hi
      cases ht : E.ty.get t with
      | none => rw [ht] at h; cases h
      | some ti =>
        rw [ht] at h
        simp only at h
        have hu := (hE.ty _ _ ht).und
        cases hd : ti.und <;> simp only [hd] at h hu <;> first | (cases h; done) | skip
        case array len e =>
          cases a <;> (try simp only at h) <;> first | (cases h; done) | skip
          rename_i a
          cases a with
          | none => cases h
          | some a =>
            simp only at h
            obtain ⟨m, off, ni, rfl, hm, hv'⟩ := (hρ _ _ hx).ptr_some
            cases he : E.ty.get e with
            | none => rw [he] at h; cases h
            | some te =>
              simp only [he] at h
              split at h
              · rename_i hb
                cases h
                have hsz := (hE.ty _ _ he).run_size (P := P)
                refine ⟨.pointer (some ⟨ni.blk, ni.d + (off + n.toNat * te.size), none⟩), ?_, .ptr m _ ni hm⟩
                unfold execOp
                simp only [ho, hv', ei]
                simp only [Instr.indexAt, asIntOf]
                simp [run_underlying hu, Instr.sureAddr, hb.1, hb.2.1, hsz, add_spot, Nat.add_assoc]
              · cases h
        case slice e =>
          cases a <;> (try simp only at h) <;> first | (cases h; done) | skip
          rename_i a len cap
          cases a with
          | none => cases h
          | some a =>
            simp only at h
            cases he : E.ty.get e with
            | none => rw [he] at h; cases h
            | some te =>
              simp only [he] at h
              split at h
              · rename_i hb
                cases h
                have hsz := (hE.ty _ _ he).run_size (P := P)
                rcases (hρ _ _ hx).slice_some with ⟨m, off, ni, cap', rfl, hm, hv', _, _⟩ | ⟨a', rfl, rfl, hv'⟩
                · refine ⟨.pointer (some ⟨ni.blk, ni.d + (off + n.toNat * te.size), none⟩), ?_, .ptr m _ ni hm⟩
                  unfold execOp
                  simp only [ho, hv', ei]
                  simp only [Instr.indexAt, asIntOf]
                  simp [run_underlying hu, hb.1, hb.2.1, hsz, add_spot, Nat.add_assoc]
                · exfalso; omega
              · cases h

theorem meets_index (hE : E.Ok P) (hρ : Env' ι ρ ρ') {o : Oper} {t : TypeId} {x i : Operand} {v : Value} (ho : o.op = .index t x i) (h : apure E ρ o = some v) (w : World) :
    Meets P ι ρ' o v w := by
  unfold apure at h
  simp only [ho] at h
  cases hx : ρ x with
  | none => rw [hx] at h; cases h
  | some a => cases hi : ρ i with
    | none => rw [hx, hi] at h; cases h
    | some iv =>
      rw [hx, hi] at h
      cases iv <;> first | (cases h; done) | skip
      rename_i k n
      have ei := int_of hρ hi
      cases ht : E.ty.get t with
      | none => rw [ht] at h; cases h
      | some ti =>
        rw [ht] at h
        simp only at h
        have hu := (hE.ty _ _ ht).und
        cases hd : ti.und <;> simp only [hd] at h hu <;> first | (cases h; done) | skip
        case array len e =>
          cases a <;> (try simp only at h) <;> first | (cases h; done) | skip
          rename_i cs
          have hvr := hρ _ _ hx
          cases hxv : ρ' x with
          | agg cs' =>
            rw [hxv] at hvr
            have hc : LR ι cs.toList cs'.toList := by cases hvr with | agg _ _ hh => exact hh
            cases he : E.ty.get e with
            | none => rw [he] at h; cases h
            | some te =>
              simp only [he] at h
              split at h
              · rename_i hb
                have hsz := (hE.ty _ _ he).run_size (P := P)
                obtain ⟨v', h1, h2⟩ := partAt_run (hE.ty _ _ he) hc h w
                refine ⟨v', ?_, h2⟩
                unfold execOp
                simp only [ho, hxv, ei]
                simp only [Instr.index, asIntOf]
                simp [run_underlying hu, hb.1, hb.2, hsz, h1]
              · cases h
          | _ => rw [hxv] at hvr; cases hvr
        case string =>
          cases a <;> (try simp only at h) <;> first | (cases h; done) | skip
          rename_i b
          have ex := str_of hρ hx
          split at h
          · rename_i hb
            cases hg : b.data.toList[n.toNat]? with
            | none => rw [hg] at h; cases h
            | some c =>
              simp only [hg] at h
              cases h
              refine ⟨.int .u8 c.toNat, ?_, .int _ _⟩
              have hg' : b[n.toNat]? = some c := by
                have : b.data[n.toNat]? = some c := by simpa using hg
                obtain ⟨hlt, hc⟩ := Array.getElem?_eq_some_iff.1 this
                have hlt' : n.toNat < b.size := hlt
                rw [getElem?_pos b n.toNat hlt']
                exact congrArg some hc
              unfold execOp
              simp only [ho, ex, ei]
              simp only [Instr.index, asIntOf]
              simp [run_underlying hu, hb, hg']
          · cases h

theorem meets_build (hE : E.Ok P) (hρ : Env' ι ρ ρ') {o : Oper} {t : TypeId} {parts : Array (Nat × Operand)} {v : Value} (ho : o.op = .build t parts) (h : apure E ρ o = some v) (w : World) :
    Meets P ι ρ' o v w := by
  unfold apure at h
  simp only [ho] at h
  cases hp : evalP ρ parts.toList with
  | none => rw [hp] at h; cases h
  | some vs => cases ht : E.ty.get t with
    | none => rw [hp, ht] at h; cases h
    | some ti =>
      rw [hp, ht] at h
      simp only at h
      have hT := hE.ty _ _ ht
      have hu := hT.und
      have hpr := evalP_PR hρ hp
      obtain ⟨z, hz, hzc, _⟩ := hT.run_zero w
      have hzl : LR ι ti.zero z.cells.toList := by rw [hzc]; exact .self fun v hv => plainV_VR (hT.plain v hv)
      have hparts : (parts.map fun (i, x) => (i, ρ' x)).toList = parts.toList.map fun (i, x) => (i, ρ' x) := by simp
      cases hd : ti.und <;> simp only [hd] at h hu <;> first | (cases h; done) | skip
      case array len e =>
        cases he : E.ty.get e with
        | none => rw [he] at h; cases h
        | some te =>
          simp only [he] at h
          cases hf : fillA te.size vs ti.zero with
          | none => rw [hf] at h; cases h
          | some c =>
            simp only [hf] at h
            cases h
            obtain ⟨c', h1, h2⟩ := fillA_fill hpr hzl hf
            have hsz := (hE.ty _ _ he).run_size (P := P)
            refine ⟨.agg c', ?_, .agg _ _ h2⟩
            unfold execOp
            simp only [ho]
            simp only [Instr.build]
            simp only [Sem.run_bind, hz, Result.andThen_ok, run_underlying hu, hsz, hparts, h1, Sem.run_pure]
      case struct fs =>
        cases hk : known E fs.toList with
        | false => rw [hk] at h; cases h
        | true =>
          simp only [hk, cond_true] at h
          cases hf : fillS E fs.toList vs ti.zero with
          | none => rw [hf] at h; cases h
          | some c =>
            simp only [hf] at h
            cases h
            obtain ⟨pl, hpl1, hpl2⟩ := run_placesA hE fs hk w
            obtain ⟨c', h1, h2⟩ := fillS_fill hpl2 hpr hzl hf
            refine ⟨.agg c', ?_, .agg _ _ h2⟩
            unfold execOp
            simp only [ho]
            simp only [Instr.build]
            simp only [Sem.run_bind, hz, Result.andThen_ok, run_underlying hu, hpl1, hparts, h1, Sem.run_pure]

/-- EVERY OPERATION THAT TOUCHES NO MEMORY. -/
theorem apure_meets (hE : E.Ok P) (hρ : Env' ι ρ ρ') {o : Oper} {v : Value} (hc : cls E o.op = .pure) (h : apure E ρ o = some v) (w : World) : Meets P ι ρ' o v w := by
  cases ho : o.op with
  | move x =>
    unfold apure at h; simp only [ho] at h
    exact ⟨ρ' x, by unfold execOp; simp only [ho]; rfl, hρ x v h⟩
  | assign x =>
    unfold apure at h; simp only [ho] at h
    exact ⟨ρ' x, by unfold execOp; simp only [ho]; rfl, hρ x v h⟩
  | pick c a b =>
    unfold apure at h; simp only [ho] at h
    cases h1 : ρ c with
    | none => rw [h1] at h; cases h
    | some cv => cases h2 : ρ a with
      | none => rw [h1, h2] at h; cases cv <;> cases h
      | some av => cases h3 : ρ b with
        | none => rw [h1, h2, h3] at h; cases cv <;> cases h
        | some bv =>
          rw [h1, h2, h3] at h
          cases cv <;> first | (cases h; done) | skip
          rename_i t
          cases h
          refine ⟨if t then ρ' a else ρ' b, ?_, ?_⟩
          · unfold execOp; simp only [ho, bool_of hρ h1]
            simp [asBool]
          · cases t
            · exact hρ _ _ h3
            · exact hρ _ _ h2
  | nilCheck x =>
    unfold apure at h; simp only [ho] at h
    cases h1 : ρ x with
    | none => rw [h1] at h; cases h
    | some a =>
      rw [h1] at h
      have hv := hρ _ _ h1
      cases a <;> (try simp only at h) <;> first | (cases h; done) | skip
      case pointer a =>
        cases a with
        | none => cases h
        | some a =>
          cases h
          obtain ⟨n, off, ni, rfl, hn, hv'⟩ := hv.ptr_some
          exact ⟨ρ' x, by unfold execOp; simp only [ho, hv']; rfl, hv⟩
      case func fn u w' =>
        cases fn <;> simp only at h <;> first | (cases h; done) | skip
        cases h
        generalize hy : ρ' x = y at hv
        cases hv with
        | func _ _ _ us vs g1 g2 => exact ⟨_, by unfold execOp; simp only [ho, hy]; rfl, .func _ _ _ _ _ g1 g2⟩
      case iface t u =>
        cases h
        generalize hy : ρ' x = y at hv
        cases hv with
        | iface _ _ u' g => exact ⟨_, by unfold execOp; simp only [ho, hy]; rfl, .iface _ _ _ g⟩
  | binOp op t x y yt => exact meets_binOp hE hρ ho h w
  | unOp op t x => exact meets_unOp hρ ho h w
  | convert s d x => exact meets_convert hE hρ ho hc h w
  | makeInterface t x =>
    unfold apure at h; simp only [ho] at h
    cases ht : E.ty.get t with
    | none => rw [ht] at h; cases h
    | some ti => cases h1 : ρ x with
      | none => rw [ht, h1] at h; cases h
      | some a =>
        rw [ht, h1] at h
        simp only at h
        have hu := (hE.ty _ _ ht).und
        have : v = .iface t a ∧ P.concrete t = true := by
          unfold Program.concrete
          rw [hu]
          cases hd : ti.und <;> simp only [hd] at h <;> first | (cases h; done) | (cases h; exact ⟨rfl, rfl⟩)
        obtain ⟨rfl, hco⟩ := this
        refine ⟨.iface t (ρ' x), ?_, .iface _ _ _ (hρ _ _ h1)⟩
        unfold execOp; simp only [ho]
        simp [run_makeInterface w t (ρ' x) hco]
  | makeFunc fn first captured =>
    unfold apure at h; simp only [ho] at h
    cases h1 : evalL ρ first.toList with
    | none => rw [h1] at h; cases h
    | some u => cases h2 : evalL ρ captured.toList with
      | none => rw [h1, h2] at h; cases h
      | some u' =>
        rw [h1, h2] at h
        simp only at h
        cases h
        refine ⟨.func fn (first.map ρ') (captured.map ρ'), by unfold execOp; simp only [ho]; rfl, ?_⟩
        have e1 : first.map ρ' = (first.toList.map ρ').toArray := by apply array_eq_of_toList; simp
        have e2 : captured.map ρ' = (captured.toList.map ρ').toArray := by apply array_eq_of_toList; simp
        rw [e1, e2]
        exact .func _ _ _ _ _ (evalL_LR hρ h1) (evalL_LR hρ h2)
  | fieldAddr t x i => exact meets_fieldAddr hE hρ ho h w
  | field t x i => exact meets_field hE hρ ho h w
  | indexAddr t x i => exact meets_indexAddr hE hρ ho h w
  | index t x i => exact meets_index hE hρ ho h w
  | extract x i =>
    unfold apure at h; simp only [ho] at h
    cases h1 : ρ x with
    | none => rw [h1] at h; cases h
    | some a =>
      rw [h1] at h
      cases a <;> (try simp only at h) <;> first | (cases h; done) | skip
      rename_i vs
      have hv := hρ _ _ h1
      cases hxv : ρ' x with
      | tuple ws =>
        rw [hxv] at hv
        have hl : LR ι vs.toList ws.toList := by cases hv with | tuple _ _ hh => exact hh
        obtain ⟨y, hy, hvy⟩ := hl.get h
        have hy' : ws[i]? = some y := by simpa using hy
        refine ⟨y, ?_, hvy⟩
        unfold execOp; simp only [ho, hxv]
        simp [Instr.extract, hy']
      | _ => rw [hxv] at hv; cases hv
  | build t parts => exact meets_build hE hρ ho h w
  | call c =>
    unfold apure at h; simp only [ho] at h
    cases hcc : c.callee with
    | builtin b =>
      cases b <;> simp only [hcc] at h <;> first | (cases h; done) | skip
      all_goals
        cases h1 : evalL ρ c.args.toList with
        | none => rw [h1] at h; cases h
        | some vs =>
          rw [h1] at h
          have hl := evalL_LR hρ h1
          cases vs with
          | nil => cases h
          | cons v0 vs =>
            simp only at h
            -- one argument alone, or integers
            generalize hg : c.args.toList.map ρ' = ws at hl
            have hargs : (c.args.map ρ').toList = ws := by simpa using hg
            cases vs with
            | nil =>
              simp only [max2] at h; cases h
              cases hl with
              | cons _ y _ ys hy hs =>
                cases hs
                refine ⟨y, ?_, hy⟩
                unfold execOp; simp only [ho, resolve, hcc]
                simp [invoke, builtin, Builtin.max_, Builtin.min_, hg]
            | cons v1 vs =>
              cases v0 <;> cases v1 <;> first | (simp only [max2] at h; cases h; done) | skip
              rename_i k a k' b
              have hints : ∀ {vs ws : List Value} {more : Bool} {k : IntKind} {a : Int} {r : Value}, LR ι vs ws → max2 more (.int k a) vs = some r → ws = vs := by
                intro vs
                induction vs with
                | nil => intro ws more k a r hl _; cases hl; rfl
                | cons u us ih =>
                  intro ws more k a r hl hm
                  cases hl with
                  | cons _ y _ ys hy hs =>
                    cases u <;> simp only [max2] at hm <;> first | (cases hm; done) | skip
                    rw [ih hs hm, hy.plain_eq.1 _ _ rfl]
              cases hl with
              | cons _ y _ ys hy hs =>
                have e0 := hy.plain_eq.1 _ _ rfl
                have e1 := hints hs h
                subst e0 e1
                first
                  | (obtain ⟨g1, g2⟩ := max2_run (P := P) w h rfl
                     refine ⟨v, ?_, plainV_VR g2⟩
                     unfold execOp; simp only [ho, resolve, hcc]
                     simp only [Sem.run_bind, Sem.run_pure, Result.andThen_ok, invoke, builtin, Builtin.max_, hargs]
                     rw [g1]; rfl)
                  | (obtain ⟨g1, g2⟩ := min2_run (P := P) w h rfl
                     refine ⟨v, ?_, plainV_VR g2⟩
                     unfold execOp; simp only [ho, resolve, hcc]
                     simp only [Sem.run_bind, Sem.run_pure, Result.andThen_ok, invoke, builtin, Builtin.min_, hargs]
                     rw [g1]; rfl)
    | _ => simp only [hcc] at h; cases h
  | _ => unfold apure at h; simp only [ho] at h; cases h

end
end Go.Sh
