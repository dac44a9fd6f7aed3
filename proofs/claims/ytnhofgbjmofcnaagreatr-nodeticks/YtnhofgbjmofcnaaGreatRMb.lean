/-
  The seat's functions in small steps. PRINTED BY PROGRAM (wip/tools/GenM.lean, sm.py). The seat's functions in small steps. PRINTED BY PROGRAM (wip/tools/GenM.lean, sm.py).
-/
import Derived.Test.YtnhofgbjmofcnaaGreatRMa
import Derived.KernelRfl

namespace Go.Sh
open Go
open Go.Proofs
set_option maxRecDepth 100000

/-- (*mooring/shake.Shake).Phase -/
noncomputable def m86 : MC :=
 (.seq (.ops [zi 2 (.val (.c (.int .i64 0)))])
 (.seq (.ops [zv 3 0, zi 4 (.nilck (.t 3)), zi 5 (.lea (.t 4) 0), zi 6 (.ld (.t 5) none), zv 2 6])
 .ret))
theorem fm86 (prim : PrimF) (h : prim 86 = none) : FnM (tE prim) 86 m86 [(.t 2)] 1 :=
 ⟨h, _, _, rfl, rfl, by kernel_rfl, by kernel_rfl, by decide⟩

/-- (*mooring/table.Table[uint64, mooring/api.Stub]).Keys -/
noncomputable def m87 : MC :=
 (.seq (.ops [zi 2 (.val (.c (.slice none 0 0)))])
 (.seq (.ops [zi 3 (.gen (.buildSlice 36 0 #[])), zv 4 0, zi 5 (.nilck (.t 4)), zi 6 (.lea (.t 5) 0), zi 7 (.ld (.t 6) none), zi 8 (.gen (.call ⟨.builtin .append, #[(.tmp 3), (.tmp 7)], #[36, 36]⟩)), zv 2 8])
 .ret))
theorem fm87 (prim : PrimF) (h : prim 87 = none) : FnM (tE prim) 87 m87 [(.t 2)] 1 :=
 ⟨h, _, _, rfl, rfl, by kernel_rfl, by kernel_rfl, by decide⟩

/-- (*mooring/table.Table[uint64, mooring/api.Stub]).Get -/
noncomputable def m88 : MC :=
 (.seq (.ops [zi 4 (.alloc [(.int .i64 0), (.int .u64 0), (.int .i64 0), (.int .u64 0), (.int .i64 0), (.int .u64 0), (.int .u64 0), (.int .u64 0), (.int .i64 0)]), zi 5 (.val (.c (.bool false)))])
 (.seq (.ops [zv 10 0, zi 11 (.nilck (.t 10)), zi 12 (.lea (.t 11) 0), zi 13 (.ld (.t 12) none), zv 14 1, zc 15 (.f 126) [(.t 13), (.t 14)], zv 9 15, zi 16 (.ext (.t 9) 0), zi 17 (.ext (.t 9) 1), zv 6 16, zv 7 17])
 (.seq (.seq (.ops [zv 18 7, zi 19 (.not (.t 18))])
 (.cond (.t 19)
 (.seq (.ops [zi 8 (.alloc [(.int .i64 0), (.int .u64 0), (.int .i64 0), (.int .u64 0), (.int .i64 0), (.int .u64 0), (.int .u64 0), (.int .u64 0), (.int .i64 0)])])
 (.seq (.ops [zi 20 (.ld (.t 8) (some 9)), zs (.st (.t 4) (.t 20) 9), zi 5 (.val (.c (.bool false)))])
 .ret))
 .skip))
 (.seq (.ops [zv 21 0, zi 22 (.nilck (.t 21)), zi 23 (.lea (.t 22) 1), zi 24 (.ld (.t 23) none), zv 25 6, zi 26 (.idxA (.t 24) (.t 25) 9), zi 27 (.ld (.t 26) (some 9)), zs (.st (.t 4) (.t 27) 9), zi 5 (.val (.c (.bool true)))])
 .ret))))
theorem fm88 (prim : PrimF) (h : prim 88 = none) : FnM (tE prim) 88 m88 [(.cell 4 (some 9)), (.t 5)] 2 :=
 ⟨h, _, _, rfl, rfl, by kernel_rfl, by kernel_rfl, by decide⟩

/-- (*mooring/table.Table[uint64, mooring/api.Scion]).Keys -/
noncomputable def m89 : MC :=
 (.seq (.ops [zi 2 (.val (.c (.slice none 0 0)))])
 (.seq (.ops [zi 3 (.gen (.buildSlice 36 0 #[])), zv 4 0, zi 5 (.nilck (.t 4)), zi 6 (.lea (.t 5) 0), zi 7 (.ld (.t 6) none), zi 8 (.gen (.call ⟨.builtin .append, #[(.tmp 3), (.tmp 7)], #[36, 36]⟩)), zv 2 8])
 .ret))
theorem fm89 (prim : PrimF) (h : prim 89 = none) : FnM (tE prim) 89 m89 [(.t 2)] 1 :=
 ⟨h, _, _, rfl, rfl, by kernel_rfl, by kernel_rfl, by decide⟩

/-- (*mooring/table.Table[uint64, mooring/api.Call]).Keys -/
noncomputable def m91 : MC :=
 (.seq (.ops [zi 2 (.val (.c (.slice none 0 0)))])
 (.seq (.ops [zi 3 (.gen (.buildSlice 36 0 #[])), zv 4 0, zi 5 (.nilck (.t 4)), zi 6 (.lea (.t 5) 0), zi 7 (.ld (.t 6) none), zi 8 (.gen (.call ⟨.builtin .append, #[(.tmp 3), (.tmp 7)], #[36, 36]⟩)), zv 2 8])
 .ret))
theorem fm91 (prim : PrimF) (h : prim 91 = none) : FnM (tE prim) 91 m91 [(.t 2)] 1 :=
 ⟨h, _, _, rfl, rfl, by kernel_rfl, by kernel_rfl, by decide⟩

/-- (*mooring/table.Table[uint64, mooring/api.Call]).Get -/
noncomputable def m92 : MC :=
 (.seq (.ops [zi 4 (.alloc [(.int .i64 0), (.int .u64 0), (.int .i64 0), (.int .i64 0), (.int .i64 0), (.int .u64 0), (.slice none 0 0), (.int .u64 0), (.int .i64 0), (.int .i64 0), (.slice none 0 0), (.int .u64 0), (.int .u64 0), (.int .u64 0), (.int .u64 0)]), zi 5 (.val (.c (.bool false)))])
 (.seq (.ops [zv 10 0, zi 11 (.nilck (.t 10)), zi 12 (.lea (.t 11) 0), zi 13 (.ld (.t 12) none), zv 14 1, zc 15 (.f 126) [(.t 13), (.t 14)], zv 9 15, zi 16 (.ext (.t 9) 0), zi 17 (.ext (.t 9) 1), zv 6 16, zv 7 17])
 (.seq (.seq (.ops [zv 18 7, zi 19 (.not (.t 18))])
 (.cond (.t 19)
 (.seq (.ops [zi 8 (.alloc [(.int .i64 0), (.int .u64 0), (.int .i64 0), (.int .i64 0), (.int .i64 0), (.int .u64 0), (.slice none 0 0), (.int .u64 0), (.int .i64 0), (.int .i64 0), (.slice none 0 0), (.int .u64 0), (.int .u64 0), (.int .u64 0), (.int .u64 0)])])
 (.seq (.ops [zi 20 (.ld (.t 8) (some 15)), zs (.st (.t 4) (.t 20) 15), zi 5 (.val (.c (.bool false)))])
 .ret))
 .skip))
 (.seq (.ops [zv 21 0, zi 22 (.nilck (.t 21)), zi 23 (.lea (.t 22) 1), zi 24 (.ld (.t 23) none), zv 25 6, zi 26 (.idxA (.t 24) (.t 25) 15), zi 27 (.ld (.t 26) (some 15)), zs (.st (.t 4) (.t 27) 15), zi 5 (.val (.c (.bool true)))])
 .ret))))
theorem fm92 (prim : PrimF) (h : prim 92 = none) : FnM (tE prim) 92 m92 [(.cell 4 (some 15)), (.t 5)] 2 :=
 ⟨h, _, _, rfl, rfl, by kernel_rfl, by kernel_rfl, by decide⟩

/-- mooring/caller.twin -/
noncomputable def m93 : MC :=
 (.seq (.ops [zi 1 (.box (.t 0)), zi 2 (.alloc [(.int .i64 0), (.int .u64 0), (.int .i64 0), (.int .i64 0), (.int .i64 0), (.int .u64 0), (.slice none 0 0), (.int .u64 0), (.int .i64 0), (.int .i64 0), (.slice none 0 0), (.int .u64 0), (.int .u64 0), (.int .u64 0), (.int .u64 0)])])
 (.seq (.ops [zi 3 (.gen (.buildSlice 55 0 #[])), zi 4 (.lea (.t 1) 6), zi 5 (.ld (.t 4) none), zi 6 (.gen (.call ⟨.builtin .append, #[(.tmp 3), (.tmp 5)], #[55, 55]⟩)), zi 7 (.lea (.t 1) 6), zs (.st (.t 7) (.t 6) 1)])
 (.seq (.ops [zi 8 (.gen (.buildSlice 55 0 #[])), zi 9 (.lea (.t 1) 10), zi 10 (.ld (.t 9) none), zi 11 (.gen (.call ⟨.builtin .append, #[(.tmp 8), (.tmp 10)], #[55, 55]⟩)), zi 12 (.lea (.t 1) 10), zs (.st (.t 12) (.t 11) 1)])
 (.seq (.ops [zi 13 (.ld (.t 1) (some 15)), zs (.st (.t 2) (.t 13) 15)])
 .ret))))
theorem fm93 (prim : PrimF) (h : prim 93 = none) : FnM (tE prim) 93 m93 [(.cell 2 (some 15))] 1 :=
 ⟨h, _, _, rfl, rfl, by kernel_rfl, by kernel_rfl, by decide⟩

/-- (*mooring/table.Table[uint64, mooring/api.Served]).Keys -/
noncomputable def m94 : MC :=
 (.seq (.ops [zi 2 (.val (.c (.slice none 0 0)))])
 (.seq (.ops [zi 3 (.gen (.buildSlice 36 0 #[])), zv 4 0, zi 5 (.nilck (.t 4)), zi 6 (.lea (.t 5) 0), zi 7 (.ld (.t 6) none), zi 8 (.gen (.call ⟨.builtin .append, #[(.tmp 3), (.tmp 7)], #[36, 36]⟩)), zv 2 8])
 .ret))
theorem fm94 (prim : PrimF) (h : prim 94 = none) : FnM (tE prim) 94 m94 [(.t 2)] 1 :=
 ⟨h, _, _, rfl, rfl, by kernel_rfl, by kernel_rfl, by decide⟩

/-- (*mooring/roots.Roots).Get -/
noncomputable def m97 : MC :=
 (.seq (.ops [zi 6 (.alloc [(.int .i64 0), (.int .u64 0)]), zi 7 (.val (.c (.bool false)))])
 (.seq (.seq (.ops [zv 8 0, zv 9 1, zv 10 2, zc 11 (.f 113) [(.t 8), (.t 9), (.t 10)], zi 12 (.not (.t 11))])
 (.cond (.t 12)
 (.seq (.ops [zi 13 (.bld [(.int .i64 0), (.int .u64 0)] []), zs (.st (.t 6) (.t 13) 2), zi 7 (.val (.c (.bool false)))])
 .ret)
 .skip))
 (.seq (.ops [zv 14 0, zi 15 (.nilck (.t 14)), zi 16 (.lea (.t 15) 0), zi 17 (.ld (.t 16) none), zv 18 1, zi 19 (.idxA (.t 17) (.t 18) 1), zi 20 (.ld (.t 19) none), zv 21 2, zi 22 (.idxA (.t 20) (.t 21) 2), zi 23 (.ld (.t 22) (some 2)), zs (.st (.t 6) (.t 23) 2), zi 7 (.val (.c (.bool true)))])
 .ret)))
theorem fm97 (prim : PrimF) (h : prim 97 = none) : FnM (tE prim) 97 m97 [(.cell 6 (some 2)), (.t 7)] 3 :=
 ⟨h, _, _, rfl, rfl, by kernel_rfl, by kernel_rfl, by decide⟩

/-- mooring/node.names -/
noncomputable def m103 : MC :=
 (.seq (.ops [zi 2 (.val (.c (.bool false))), zi 3 (.val (.c (.bool false))), zi 4 (.val (.c (.bool false)))])
 (.seq (.seq (.ops [zv 5 0])
 (.block 0 (.seq (.seq (.ops [zi 7 (.bin .eql (.t 5) (.c (.int .i64 2))), zv 6 7])
 (.cond (.t 6)
 .skip
 (.seq (.ops [zi 8 (.bin .eql (.t 5) (.c (.int .i64 4))), zv 6 8])
 (.cond (.t 6)
 .skip
 (.ops [zi 9 (.bin .eql (.t 5) (.c (.int .i64 8))), zv 6 9])))))
 (.cond (.t 6)
 (.seq (.ops [zi 2 (.val (.c (.bool true))), zi 3 (.val (.c (.bool true))), zi 4 (.val (.c (.bool false)))])
 .ret)
 (.seq (.seq (.ops [zi 11 (.bin .eql (.t 5) (.c (.int .i64 5))), zv 10 11])
 (.cond (.t 10)
 .skip
 (.ops [zi 12 (.bin .eql (.t 5) (.c (.int .i64 11))), zv 10 12])))
 (.cond (.t 10)
 (.seq (.ops [zi 2 (.val (.c (.bool true))), zi 3 (.val (.c (.bool true))), zi 4 (.val (.c (.bool true)))])
 .ret)
 (.seq (.seq (.ops [zi 14 (.bin .eql (.t 5) (.c (.int .i64 9))), zv 13 14])
 (.cond (.t 13)
 .skip
 (.ops [zi 15 (.bin .eql (.t 5) (.c (.int .i64 15))), zv 13 15])))
 (.cond (.t 13)
 (.seq (.ops [zi 2 (.val (.c (.bool false))), zi 3 (.val (.c (.bool false))), zi 4 (.val (.c (.bool false)))])
 .ret)
 .skip))))))))
 (.seq (.ops [zi 2 (.val (.c (.bool true))), zi 3 (.val (.c (.bool false))), zi 4 (.val (.c (.bool false)))])
 .ret)))
theorem fm103 (prim : PrimF) (h : prim 103 = none) : FnM (tE prim) 103 m103 [(.t 2), (.t 3), (.t 4)] 1 :=
 ⟨h, _, _, rfl, rfl, by kernel_rfl, by kernel_rfl, by decide⟩

/-- (*mooring/node.Node).named$1 -/
noncomputable def m104 : MC :=
 (.seq (.ops [zi 3 (.val (.c (.bool false)))])
 (.seq (.ops [zv 4 0, zi 5 (.bin .geq (.t 4) (.c (.int .i64 0))), zv 6 5, zg 7 6 true (.val (.t 0)), zg 8 6 true (.ld (.t 1) none), zg 9 6 true (.nilck (.t 8)), zg 10 6 true (.lea (.t 9) 3), zg 11 6 true (.lea (.t 10) 2), zg 12 6 true (.ld (.t 11) none), zg 13 6 true (.bin .lss (.t 7) (.t 12)), zi 14 (.pick (.t 6) (.t 13) (.c (.bool false))), zv 3 14])
 .ret))
theorem fm104 (prim : PrimF) (h : prim 104 = none) : FnM (tE prim) 104 m104 [(.t 3)] 2 :=
 ⟨h, _, _, rfl, rfl, by kernel_rfl, by kernel_rfl, by decide⟩

/-- mooring/heap.fields -/
noncomputable def m105 : MC :=
 (.seq (.ops [zi 2 (.val (.c (.bool false)))])
 (.seq (.ops [zv 3 0, zi 4 (.bin .geq (.t 3) (.c (.int .i64 0))), zv 5 4, zg 6 5 true (.val (.t 0)), zg 7 5 true (.bin .leq (.t 6) (.c (.int .i64 7))), zi 8 (.pick (.t 5) (.t 7) (.c (.bool false))), zv 2 8])
 .ret))
theorem fm105 (prim : PrimF) (h : prim 105 = none) : FnM (tE prim) 105 m105 [(.t 2)] 1 :=
 ⟨h, _, _, rfl, rfl, by kernel_rfl, by kernel_rfl, by decide⟩

/-- (*mooring/arena.Arena).Alloc -/
noncomputable def m106 : MC :=
 (.seq (.ops [zi 4 (.val (.c (.int .i64 0))), zi 5 (.val (.c (.int .i64 0)))])
 (.seq (.ops [zv 10 1, zc 11 (.f 127) [(.t 10)], zv 6 11])
 (.seq (.seq (.ops [zv 12 6, zi 13 (.bin .eql (.t 12) (.c (.int .i64 0)))])
 (.cond (.t 13)
 (.seq (.ops [zi 4 (.val (.c (.int .i64 0))), zi 5 (.val (.c (.int .i64 1)))])
 .ret)
 .skip))
 (.seq (.ops [zi 7 (.val (.c (.int .i64 (-1))))])
 (.seq (.seq (.ops [zv 14 0, zi 15 (.nilck (.t 14)), zi 16 (.lea (.t 15) 0), zi 17 (.ld (.t 16) none), zi 18 (.lenS (.t 17)), zi 19 (.val (.c (.int .i64 0)))])
 (.block 0 (.loop (.seq (.ops [zi 20 (.bin .lss (.t 19) (.t 18))])
 (.seq (.cond (.t 20)
 .skip
 (.exit 0))
 (.seq (.block 1 (.seq (.ops [zv 21 19, zi 22 (.idxA (.t 17) (.t 19) 1), zi 23 (.ld (.t 22) none), zv 8 21, zv 9 23])
 (.seq (.seq (.draw 15 [zj 24 0 (.val (.t 9)), zj 25 1 (.val (.t 6)), zj 26 2 (.bin .eql (.t 24) (.t 25)), zj 27 3 (.val (.t 26)), ⟨(some 28), (.i (.val (.t 0))), (some (27, true)), (some 4)⟩, ⟨(some 29), (.i (.nilck (.t 28))), (some (27, true)), (some 5)⟩, ⟨(some 30), (.i (.lea (.t 29) 1)), (some (27, true)), (some 6)⟩, ⟨(some 31), (.i (.ld (.t 30) none)), (some (27, true)), (some 7)⟩, ⟨(some 32), (.i (.val (.t 8))), (some (27, true)), (some 8)⟩, ⟨(some 33), (.i (.idxA (.t 31) (.t 32) 1)), (some (27, true)), (some 9)⟩, ⟨(some 34), (.i (.ld (.t 33) none)), (some (27, true)), (some 10)⟩, ⟨(some 35), (.i (.val (.t 6))), (some (27, true)), (some 11)⟩, ⟨(some 36), (.call (.f 128) [(.t 35)]), (some (27, true)), (some 12)⟩, ⟨none, (.chk (.ld (.t 30) none) 31), (some (27, true)), none⟩, ⟨none, (.chk (.ld (.t 33) none) 34), (some (27, true)), none⟩, ⟨(some 37), (.i (.bin .neq (.t 34) (.t 36))), (some (27, true)), (some 13)⟩, zj 38 14 (.pick (.t 27) (.t 37) (.c (.bool false)))])
 (.cond (.t 38)
 (.seq (.ops [zv 39 0, zv 40 8, zc 41 (.f 129) [(.t 39), (.t 40)], zv 4 41, zi 5 (.val (.c (.int .i64 0)))])
 .ret)
 .skip))
 (.seq (.ops [zv 42 9, zi 43 (.bin .eql (.t 42) (.c (.int .i64 0))), zv 44 43, zg 45 44 true (.val (.t 7)), zg 46 44 true (.bin .lss (.t 45) (.c (.int .i64 0))), zi 47 (.pick (.t 44) (.t 46) (.c (.bool false)))])
 (.cond (.t 47)
 (.ops [zv 48 8, zv 7 48])
 .skip)))))
 (.ops [zi 49 (.bin .add (.t 19) (.c (.int .i64 1))), zv 19 49])))))))
 (.seq (.seq (.ops [zv 50 7, zi 51 (.bin .lss (.t 50) (.c (.int .i64 0)))])
 (.cond (.t 51)
 (.seq (.ops [zi 4 (.val (.c (.int .i64 0))), zi 5 (.val (.c (.int .i64 2)))])
 .ret)
 .skip))
 (.seq (.ops [zv 52 0, zi 53 (.nilck (.t 52)), zi 54 (.lea (.t 53) 0), zi 55 (.ld (.t 54) none), zv 56 7, zv 57 6, zi 58 (.idxA (.t 55) (.t 56) 1), zs (.st (.t 58) (.t 57) 1)])
 (.seq (.ops [zv 59 0, zv 60 7, zc 61 (.f 129) [(.t 59), (.t 60)], zv 4 61, zi 5 (.val (.c (.int .i64 0)))])
 .ret))))))))
theorem fm106 (prim : PrimF) (h : prim 106 = none) : FnM (tE prim) 106 m106 [(.t 4), (.t 5)] 2 :=
 ⟨h, _, _, rfl, rfl, by kernel_rfl, by kernel_rfl, by decide⟩

/-- (*mooring/cycle.Cycle).open -/
noncomputable def m107 : MC :=
 (.seq (.ops [zi 2 (.val (.c (.bool false)))])
 (.seq (.ops [zv 3 0, zc 4 (.f 34) [(.t 3)], zi 5 (.bin .geq (.t 4) (.c (.int .i64 1))), zv 6 5, zg 7 6 true (.val (.t 0)), ⟨(some 8), (.call (.f 34) [(.t 7)]), (some (6, true)), none⟩, zg 9 6 true (.bin .leq (.t 8) (.c (.int .i64 4))), zi 10 (.pick (.t 6) (.t 9) (.c (.bool false))), zv 2 10])
 .ret))
theorem fm107 (prim : PrimF) (h : prim 107 = none) : FnM (tE prim) 107 m107 [(.t 2)] 1 :=
 ⟨h, _, _, rfl, rfl, by kernel_rfl, by kernel_rfl, by decide⟩

/-- (*mooring/node.Node).local -/
noncomputable def m111 : MC :=
 (.seq (.ops [zi 3 (.box (.t 1)), zi 4 (.val (.c (.bool false)))])
 (.seq (.draw 8 [zj 5 0 (.lea (.t 3) 0), zj 6 1 (.ld (.t 5) none), zj 7 2 (.val (.t 0)), zj 8 3 (.nilck (.t 7)), zj 9 4 (.lea (.t 8) 25), zj 10 5 (.ld (.t 9) none), zj 11 6 (.bin .eql (.t 6) (.t 10)), zj 4 7 (.val (.t 11))])
 .ret))
theorem fm111 (prim : PrimF) (h : prim 111 = none) : FnM (tE prim) 111 m111 [(.t 4)] 2 :=
 ⟨h, _, _, rfl, rfl, by kernel_rfl, by kernel_rfl, by decide⟩

/-- (*mooring/stub.Table).State -/
noncomputable def m112 : MC :=
 (.seq (.ops [zi 4 (.box (.t 1)), zi 6 (.val (.c (.int .i64 0)))])
 (.seq (.ops [zv 10 0, zi 11 (.ld (.t 4) (some 2)), zc 12 (.f 132) [(.t 10), (.t 11)], zv 9 12, zi 13 (.ext (.t 9) 0), zi 14 (.ext (.t 9) 1), zi 7 (.alloc [(.int .i64 0), (.int .u64 0), (.int .i64 0), (.int .u64 0), (.int .i64 0), (.int .u64 0), (.int .u64 0), (.int .u64 0), (.int .i64 0)]), zs (.st (.t 7) (.t 13) 9), zv 8 14])
 (.seq (.block 0 (.seq (.ops [zv 16 8, zi 17 (.not (.t 16)), zv 15 17])
 (.cond (.t 15)
 (.seq (.ops [zi 6 (.val (.c (.int .i64 0)))])
 .ret)
 (.seq (.ops [zv 19 0, zi 20 (.ld (.t 7) (some 9)), zv 21 2, zc 22 (.f 133) [(.t 19), (.t 20), (.t 21)], zv 18 22])
 (.cond (.t 18)
 (.seq (.ops [zi 6 (.val (.c (.int .i64 4)))])
 .ret)
 .skip)))))
 (.seq (.ops [zi 23 (.lea (.t 7) 2), zi 24 (.ld (.t 23) none), zv 6 24])
 .ret))))
theorem fm112 (prim : PrimF) (h : prim 112 = none) : FnM (tE prim) 112 m112 [(.t 6)] 3 :=
 ⟨h, _, _, rfl, rfl, by kernel_rfl, by kernel_rfl, by decide⟩

/-- (*mooring/roots.Roots).there -/
noncomputable def m113 : MC :=
 (.seq (.ops [zi 6 (.val (.c (.bool false)))])
 (.seq (.ops [zv 7 1, zi 8 (.bin .geq (.t 7) (.c (.int .i64 0))), zv 9 8, zg 10 9 true (.val (.t 1)), zg 11 9 true (.val (.t 0)), zg 12 9 true (.nilck (.t 11)), zg 13 9 true (.lea (.t 12) 0), zg 14 9 true (.ld (.t 13) none), zg 15 9 true (.lenS (.t 14)), zg 16 9 true (.bin .lss (.t 10) (.t 15)), zi 17 (.pick (.t 9) (.t 16) (.c (.bool false))), zv 18 17, zg 19 18 true (.val (.t 2)), zg 20 18 true (.bin .geq (.t 19) (.c (.int .i64 0))), zi 21 (.pick (.t 18) (.t 20) (.c (.bool false))), zv 22 21, zg 23 22 true (.val (.t 2)), zg 24 22 true (.val (.t 0)), zg 25 22 true (.nilck (.t 24)), zg 26 22 true (.lea (.t 25) 0), zg 27 22 true (.ld (.t 26) none), zg 28 22 true (.val (.t 1)), zg 29 22 true (.idxA (.t 27) (.t 28) 1), zg 30 22 true (.ld (.t 29) none), zg 31 22 true (.lenS (.t 30)), zg 32 22 true (.bin .lss (.t 23) (.t 31)), zi 33 (.pick (.t 22) (.t 32) (.c (.bool false))), zv 6 33])
 .ret))
theorem fm113 (prim : PrimF) (h : prim 113 = none) : FnM (tE prim) 113 m113 [(.t 6)] 3 :=
 ⟨h, _, _, rfl, rfl, by kernel_rfl, by kernel_rfl, by decide⟩

/-- (*mooring/heap.Heap).Ref -/
noncomputable def m114 : MC :=
 (.seq (.ops [zi 6 (.alloc [(.int .i64 0), (.int .u64 0)]), zi 7 (.val (.c (.int .i64 0)))])
 (.seq (.ops [zv 9 0, zi 10 (.nilck (.t 9)), zi 11 (.lea (.t 10) 4), zi 12 (.ld (.t 11) none), zv 13 1, zi 14 (.gen (.lookup 192 (.tmp 12) (.tmp 13) false)), zv 8 14])
 (.seq (.seq (.ops [zv 15 8, zi 16 (.eqv 262 false (.t 15) (.c (.pointer none))), zv 17 16, zg 18 17 false (.val (.t 2)), zg 19 17 false (.val (.t 8)), zg 20 17 false (.nilck (.t 19)), zg 21 17 false (.lea (.t 20) 1), zg 22 17 false (.ld (.t 21) none), zg 23 17 false (.lenS (.t 22)), ⟨(some 24), (.call (.f 134) [(.t 18), (.t 23)]), (some (17, false)), none⟩, zg 25 17 false (.not (.t 24)), zi 26 (.pick (.t 17) (.c (.bool true)) (.t 25))])
 (.cond (.t 26)
 (.seq (.ops [zi 27 (.bld [(.int .i64 0), (.int .u64 0)] []), zs (.st (.t 6) (.t 27) 2), zi 7 (.val (.c (.int .i64 5)))])
 .ret)
 .skip))
 (.seq (.ops [zv 28 8, zi 29 (.nilck (.t 28)), zi 30 (.lea (.t 29) 1), zi 31 (.ld (.t 30) none), zv 32 2, zi 33 (.idxA (.t 31) (.t 32) 2), zi 34 (.ld (.t 33) (some 2)), zs (.st (.t 6) (.t 34) 2), zi 7 (.val (.c (.int .i64 0)))])
 .ret))))
theorem fm114 (prim : PrimF) (h : prim 114 = none) : FnM (tE prim) 114 m114 [(.cell 6 (some 2)), (.t 7)] 3 :=
 ⟨h, _, _, rfl, rfl, by kernel_rfl, by kernel_rfl, by decide⟩

/-- (*mooring/heap.Heap).Val -/
noncomputable def m115 : MC :=
 (.seq (.ops [zi 6 (.val (.c (.int .u64 0))), zi 7 (.val (.c (.int .i64 0)))])
 (.seq (.ops [zv 9 0, zi 10 (.nilck (.t 9)), zi 11 (.lea (.t 10) 4), zi 12 (.ld (.t 11) none), zv 13 1, zi 14 (.gen (.lookup 192 (.tmp 12) (.tmp 13) false)), zv 8 14])
 (.seq (.seq (.ops [zv 15 8, zi 16 (.eqv 262 false (.t 15) (.c (.pointer none))), zv 17 16, zg 18 17 false (.val (.t 2)), zg 19 17 false (.val (.t 8)), zg 20 17 false (.nilck (.t 19)), zg 21 17 false (.lea (.t 20) 2), zg 22 17 false (.ld (.t 21) none), zg 23 17 false (.lenS (.t 22)), ⟨(some 24), (.call (.f 134) [(.t 18), (.t 23)]), (some (17, false)), none⟩, zg 25 17 false (.not (.t 24)), zi 26 (.pick (.t 17) (.c (.bool true)) (.t 25))])
 (.cond (.t 26)
 (.seq (.ops [zi 6 (.val (.c (.int .u64 0))), zi 7 (.val (.c (.int .i64 5)))])
 .ret)
 .skip))
 (.seq (.ops [zv 27 8, zi 28 (.nilck (.t 27)), zi 29 (.lea (.t 28) 2), zi 30 (.ld (.t 29) none), zv 31 2, zi 32 (.idxA (.t 30) (.t 31) 1), zi 33 (.ld (.t 32) none), zv 6 33, zi 7 (.val (.c (.int .i64 0)))])
 .ret))))
theorem fm115 (prim : PrimF) (h : prim 115 = none) : FnM (tE prim) 115 m115 [(.t 6), (.t 7)] 3 :=
 ⟨h, _, _, rfl, rfl, by kernel_rfl, by kernel_rfl, by decide⟩

/-- (*mooring/heap.Heap).SetVal -/
noncomputable def m116 : MC :=
 (.seq (.ops [zi 8 (.val (.c (.int .i64 0)))])
 (.seq (.ops [zv 12 0, zv 13 1, zv 14 2, zc 15 (.f 115) [(.t 12), (.t 13), (.t 14)], zv 11 15, zi 16 (.ext (.t 11) 0), zi 17 (.ext (.t 11) 1), zv 9 16, zv 10 17])
 (.seq (.seq (.ops [zv 18 10, zi 19 (.bin .eql (.t 18) (.c (.int .i64 0)))])
 (.cond (.t 19)
 (.ops [zv 20 0, zi 21 (.nilck (.t 20)), zi 22 (.lea (.t 21) 4), zi 23 (.ld (.t 22) none), zv 24 1, zi 25 (.gen (.lookup 192 (.tmp 23) (.tmp 24) false)), zi 26 (.nilck (.t 25)), zi 27 (.lea (.t 26) 2), zi 28 (.ld (.t 27) none), zv 29 2, zv 30 3, zi 31 (.idxA (.t 28) (.t 29) 1), zs (.st (.t 31) (.t 30) 1)])
 .skip))
 (.seq (.ops [zv 32 10, zv 8 32])
 .ret))))
theorem fm116 (prim : PrimF) (h : prim 116 = none) : FnM (tE prim) 116 m116 [(.t 8)] 4 :=
 ⟨h, _, _, rfl, rfl, by kernel_rfl, by kernel_rfl, by decide⟩

/-- (*mooring/heap.Heap).SetRef -/
noncomputable def m117 : MC :=
 (.seq (.ops [zi 7 (.box (.t 3)), zi 8 (.alloc [(.int .i64 0), (.int .u64 0)]), zi 9 (.val (.c (.int .i64 0)))])
 (.seq (.seq (.ops [zi 12 (.ld (.t 7) (some 2)), zc 13 (.f 135) [(.t 12)], zi 14 (.not (.t 13))])
 (.cond (.t 14)
 (.seq (.ops [zi 15 (.bld [(.int .i64 0), (.int .u64 0)] []), zs (.st (.t 8) (.t 15) 2), zi 9 (.val (.c (.int .i64 1)))])
 .ret)
 .skip))
 (.seq (.ops [zv 17 0, zv 18 1, zv 19 2, zc 20 (.f 114) [(.t 17), (.t 18), (.t 19)], zv 16 20, zi 21 (.ext (.t 16) 0), zi 22 (.ext (.t 16) 1), zi 10 (.alloc [(.int .i64 0), (.int .u64 0)]), zs (.st (.t 10) (.t 21) 2), zv 11 22])
 (.seq (.seq (.ops [zv 23 11, zi 24 (.bin .eql (.t 23) (.c (.int .i64 0)))])
 (.cond (.t 24)
 (.draw 13 [zj 25 0 (.val (.t 0)), zj 26 1 (.nilck (.t 25)), zj 27 2 (.lea (.t 26) 4), zj 28 3 (.ld (.t 27) none), zj 29 4 (.val (.t 1)), zj 30 5 (.gen (.lookup 192 (.tmp 28) (.tmp 29) false)), zj 31 6 (.nilck (.t 30)), zj 32 7 (.lea (.t 31) 1), zj 33 8 (.ld (.t 32) none), zj 34 9 (.val (.t 2)), zj 35 10 (.ld (.t 7) (some 2)), zj 36 11 (.idxA (.t 33) (.t 34) 2), zq 12 (.st (.t 36) (.t 35) 2)])
 .skip))
 (.seq (.ops [zi 37 (.ld (.t 10) (some 2)), zv 38 11, zs (.st (.t 8) (.t 37) 2), zv 9 38])
 .ret)))))
theorem fm117 (prim : PrimF) (h : prim 117 = none) : FnM (tE prim) 117 m117 [(.cell 8 (some 2)), (.t 9)] 4 :=
 ⟨h, _, _, rfl, rfl, by kernel_rfl, by kernel_rfl, by decide⟩

/-- (*mooring/cycle.Cycle).Store -/
noncomputable def m118 : MC :=
 (.seq (.ops [zi 6 (.box (.t 2)), zi 7 (.box (.t 3))])
 (.seq (.seq (.ops [zv 8 0, zc 9 (.f 107) [(.t 8)], zi 10 (.not (.t 9)), zv 11 10, zg 12 11 false (.val (.t 0)), zg 13 11 false (.nilck (.t 12)), zg 14 11 false (.lea (.t 13) 0), zg 15 11 false (.ld (.t 14) none), zg 16 11 false (.val (.t 1)), ⟨(some 17), (.call (.f 108) [(.t 15), (.t 16)]), (some (11, false)), none⟩, zg 18 11 false (.not (.t 17)), zi 19 (.pick (.t 11) (.c (.bool true)) (.t 18))])
 (.cond (.t 19)
 .ret
 .skip))
 (.seq (.draw 6 [zj 20 0 (.val (.t 0)), zj 21 1 (.nilck (.t 20)), zj 22 2 (.lea (.t 21) 2), zj 23 3 (.ld (.t 22) none), zj 24 4 (.ld (.t 6) (some 2)), zk 25 5 (.f 109) [(.t 23), (.t 24), (.c (.int .i64 0))]])
 (.seq (.ops [zv 26 0, zi 27 (.nilck (.t 26)), zi 28 (.lea (.t 27) 0), zi 29 (.ld (.t 28) none), zv 30 1, zc 31 (.f 136) [(.t 29), (.t 30)], zi 32 (.not (.t 31))])
 (.cond (.t 32)
 (.draw 6 [zj 33 0 (.val (.t 0)), zj 34 1 (.nilck (.t 33)), zj 35 2 (.lea (.t 34) 2), zj 36 3 (.ld (.t 35) none), zj 37 4 (.ld (.t 7) (some 2)), zk 38 5 (.f 109) [(.t 36), (.t 37), (.c (.int .i64 0))]])
 .skip)))))
theorem fm118 (prim : PrimF) (h : prim 118 = none) : FnM (tE prim) 118 m118 [] 4 :=
 ⟨h, _, _, rfl, rfl, by kernel_rfl, by kernel_rfl, by decide⟩

/-- (*mooring/caller.Table).Await -/
noncomputable def m119 : MC :=
 (.seq (.ops [zi 8 (.alloc [(.int .i64 0), (.int .u64 0), (.int .i64 0), (.int .i64 0), (.int .i64 0), (.int .u64 0), (.slice none 0 0), (.int .u64 0), (.int .i64 0), (.int .i64 0), (.slice none 0 0), (.int .u64 0), (.int .u64 0), (.int .u64 0), (.int .u64 0)]), zi 9 (.val (.c (.bool false))), zi 10 (.val (.c (.int .i64 0)))])
 (.seq (.ops [zv 14 0, zv 15 1, zv 16 2, zc 17 (.f 137) [(.t 14), (.t 15), (.t 16)], zv 13 17, zi 18 (.ext (.t 13) 0), zi 19 (.ext (.t 13) 1), zi 11 (.alloc [(.int .i64 0), (.int .u64 0), (.int .i64 0), (.int .i64 0), (.int .i64 0), (.int .u64 0), (.slice none 0 0), (.int .u64 0), (.int .i64 0), (.int .i64 0), (.slice none 0 0), (.int .u64 0), (.int .u64 0), (.int .u64 0), (.int .u64 0)]), zs (.st (.t 11) (.t 18) 15), zv 12 19])
 (.seq (.block 0 (.seq (.ops [zv 21 12, zi 22 (.not (.t 21)), zv 23 22, zg 24 23 false (.lea (.t 11) 8), zg 25 23 false (.ld (.t 24) none), zg 26 23 false (.bin .eql (.t 25) (.c (.int .i64 4))), zi 27 (.pick (.t 23) (.c (.bool true)) (.t 26)), zv 20 27])
 (.cond (.t 20)
 (.seq (.ops [zi 28 (.bld [(.int .i64 0), (.int .u64 0), (.int .i64 0), (.int .i64 0), (.int .i64 0), (.int .u64 0), (.slice none 0 0), (.int .u64 0), (.int .i64 0), (.int .i64 0), (.slice none 0 0), (.int .u64 0), (.int .u64 0), (.int .u64 0), (.int .u64 0)] []), zs (.st (.t 8) (.t 28) 15), zi 9 (.val (.c (.bool false))), zi 10 (.val (.c (.int .i64 5)))])
 .ret)
 (.seq (.ops [zi 30 (.lea (.t 11) 8), zi 31 (.ld (.t 30) none), zi 32 (.bin .eql (.t 31) (.c (.int .i64 3))), zv 29 32])
 (.cond (.t 29)
 (.seq (.draw 8 [zj 33 0 (.val (.t 0)), zj 34 1 (.nilck (.t 33)), zj 35 2 (.lea (.t 34) 25), zj 36 3 (.ld (.t 35) none), zj 37 4 (.val (.t 1)), zj 38 5 (.val (.t 2)), zk 39 6 (.f 139) [(.t 37), (.t 38)], ⟨none, (.chk (.ld (.t 35) none) 36), none, none⟩, zk 40 7 (.f 138) [(.t 36), (.t 39)]])
 (.seq (.ops [zi 41 (.ld (.t 11) (some 15)), zc 42 (.f 93) [(.t 41)], zs (.st (.t 8) (.t 42) 15), zi 9 (.val (.c (.bool false))), zi 10 (.val (.c (.int .i64 0)))])
 .ret))
 (.seq (.draw 11 [zj 44 0 (.lea (.t 11) 14), zj 45 1 (.ld (.t 44) none), zj 46 2 (.val (.t 0)), zj 47 3 (.nilck (.t 46)), zj 48 4 (.lea (.t 47) 0), zj 49 5 (.lea (.t 48) 16), zj 50 6 (.ld (.t 49) none), zj 51 7 (.val (.t 3)), zk 52 8 (.f 140) [(.t 45), (.t 50), (.t 51)], zj 53 9 (.not (.t 52)), zj 43 10 (.val (.t 53))])
 (.cond (.t 43)
 (.seq (.ops [zi 54 (.bld [(.int .i64 0), (.int .u64 0), (.int .i64 0), (.int .i64 0), (.int .i64 0), (.int .u64 0), (.slice none 0 0), (.int .u64 0), (.int .i64 0), (.int .i64 0), (.slice none 0 0), (.int .u64 0), (.int .u64 0), (.int .u64 0), (.int .u64 0)] []), zs (.st (.t 8) (.t 54) 15), zi 9 (.val (.c (.bool false))), zi 10 (.val (.c (.int .i64 8)))])
 .ret)
 (.seq (.ops [zi 56 (.lea (.t 11) 8), zi 57 (.ld (.t 56) none), zi 58 (.bin .eql (.t 57) (.c (.int .i64 2))), zv 55 58])
 (.cond (.t 55)
 (.seq (.draw 8 [zj 59 0 (.val (.t 0)), zj 60 1 (.nilck (.t 59)), zj 61 2 (.lea (.t 60) 25), zj 62 3 (.ld (.t 61) none), zj 63 4 (.val (.t 1)), zj 64 5 (.val (.t 2)), zk 65 6 (.f 139) [(.t 63), (.t 64)], ⟨none, (.chk (.ld (.t 61) none) 62), none, none⟩, zk 66 7 (.f 138) [(.t 62), (.t 65)]])
 (.seq (.ops [zi 67 (.bld [(.int .i64 0), (.int .u64 0), (.int .i64 0), (.int .i64 0), (.int .i64 0), (.int .u64 0), (.slice none 0 0), (.int .u64 0), (.int .i64 0), (.int .i64 0), (.slice none 0 0), (.int .u64 0), (.int .u64 0), (.int .u64 0), (.int .u64 0)] []), zs (.st (.t 8) (.t 67) 15), zi 9 (.val (.c (.bool true))), zi 10 (.val (.c (.int .i64 3)))])
 .ret))
 .skip)))))))))
 (.seq (.ops [zi 68 (.lea (.t 11) 8), zs (.st (.t 68) (.c (.int .i64 4)) 1)])
 (.seq (.ops [zv 69 0, zi 70 (.ld (.t 11) (some 15)), zc 71 (.f 141) [(.t 69), (.t 70)]])
 (.seq (.ops [zi 72 (.bld [(.int .i64 0), (.int .u64 0), (.int .i64 0), (.int .i64 0), (.int .i64 0), (.int .u64 0), (.slice none 0 0), (.int .u64 0), (.int .i64 0), (.int .i64 0), (.slice none 0 0), (.int .u64 0), (.int .u64 0), (.int .u64 0), (.int .u64 0)] []), zs (.st (.t 8) (.t 72) 15), zi 9 (.val (.c (.bool false))), zi 10 (.val (.c (.int .i64 3)))])
 .ret))))))
theorem fm119 (prim : PrimF) (h : prim 119 = none) : FnM (tE prim) 119 m119 [(.cell 8 (some 15)), (.t 9), (.t 10)] 4 :=
 ⟨h, _, _, rfl, rfl, by kernel_rfl, by kernel_rfl, by decide⟩

/-- (*mooring/node.Node).pass -/
noncomputable def m121 : MC :=
 (.seq (.ops [zi 3 (.box (.t 1))])
 (.seq (.draw 3 [zj 4 0 (.ld (.t 3) (some 2)), zk 5 1 (.f 63) [], ⟨none, (.chk (.ld (.t 3) (some 2)) 4), none, none⟩, zj 6 2 (.eqv 54 true (.t 4) (.t 5))])
 (.cond (.t 6)
 (.seq (.ops [zv 7 0, zi 8 (.nilck (.t 7)), zi 9 (.lea (.t 8) 32), zi 10 (.ld (.t 9) none), zi 11 (.bin .add (.t 10) (.c (.int .u64 1))), zi 12 (.nilck (.t 7)), zi 13 (.lea (.t 12) 32), zs (.st (.t 13) (.t 11) 1)])
 (.draw 6 [zj 14 0 (.val (.t 0)), zj 15 1 (.nilck (.t 14)), zj 16 2 (.lea (.t 15) 26), zj 17 3 (.ld (.t 16) none), zj 18 4 (.ld (.t 3) (some 2)), zk 19 5 (.f 142) [(.t 17), (.t 18)]]))
 .skip)))
theorem fm121 (prim : PrimF) (h : prim 121 = none) : FnM (tE prim) 121 m121 [] 2 :=
 ⟨h, _, _, rfl, rfl, by kernel_rfl, by kernel_rfl, by decide⟩

/-- (*mooring/caller.Table).Begin -/
noncomputable def m122 : MC :=
 (.seq (.ops [zi 12 (.box (.t 4)), zi 16 (.val (.c (.int .u64 0))), zi 17 (.val (.c (.int .i64 0)))])
 (.seq (.ops [zv 20 1, zv 21 2, zv 22 3, zi 23 (.ld (.t 12) (some 2)), zv 24 6, zv 25 5, zv 26 7, zv 27 7, zi 28 (.bld [(.int .i64 0), (.int .u64 0), (.int .i64 0), (.int .i64 0), (.int .i64 0), (.int .u64 0), (.slice none 0 0), (.int .u64 0), (.int .i64 0), (.int .i64 0), (.slice none 0 0), (.int .u64 0), (.int .u64 0), (.int .u64 0), (.int .u64 0)] [(0, 1, (.t 20)), (1, 1, (.c (.int .u64 1))), (2, 1, (.t 21)), (3, 1, (.t 22)), (4, 2, (.t 23)), (6, 1, (.t 24)), (7, 1, (.t 25)), (8, 1, (.c (.int .i64 1))), (12, 1, (.t 26)), (14, 1, (.t 27))]), zc 29 (.f 93) [(.t 28)], zi 18 (.alloc [(.int .i64 0), (.int .u64 0), (.int .i64 0), (.int .i64 0), (.int .i64 0), (.int .u64 0), (.slice none 0 0), (.int .u64 0), (.int .i64 0), (.int .i64 0), (.slice none 0 0), (.int .u64 0), (.int .u64 0), (.int .u64 0), (.int .u64 0)]), zs (.st (.t 18) (.t 29) 15)])
 (.seq (.ops [zi 30 (.ld (.t 12) (some 2)), zi 31 (.bld [(.int .i64 0), (.int .u64 0)] []), zi 32 (.eqv 54 false (.t 30) (.t 31)), zv 19 32])
 (.seq (.block 0 (.seq (.ops [zv 34 1, zv 35 0, zi 36 (.nilck (.t 35)), zi 37 (.lea (.t 36) 0), zi 38 (.lea (.t 37) 0), zi 39 (.ld (.t 38) none), zi 40 (.bin .gtr (.t 34) (.t 39)), zv 41 40, zg 42 41 false (.val (.t 0)), zg 43 41 false (.ld (.t 18) (some 15)), ⟨(some 44), (.call (.f 144) [(.t 42), (.t 43), (.c (.int .u64 1))]), (some (41, false)), none⟩, ⟨(some 45), (.call (.f 143) [(.t 44)]), (some (41, false)), none⟩, zg 46 41 false (.not (.t 45)), zi 47 (.pick (.t 41) (.c (.bool true)) (.t 46)), zv 48 47, zg 49 48 false (.val (.t 19)), zg 50 48 false (.not (.t 49)), zg 51 48 false (.val (.t 50)), zg 52 51 true (.lea (.t 12) 0), zg 53 51 true (.ld (.t 52) none), zg 54 51 true (.val (.t 1)), zg 55 51 true (.bin .neq (.t 53) (.t 54)), zg 56 48 false (.pick (.t 51) (.t 55) (.c (.bool false))), zi 57 (.pick (.t 48) (.c (.bool true)) (.t 56)), zv 33 57])
 (.cond (.t 33)
 (.seq (.ops [zi 16 (.val (.c (.int .u64 0))), zi 17 (.val (.c (.int .i64 1)))])
 .ret)
 (.seq (.draw 33 [zj 59 0 (.val (.t 0)), zj 60 1 (.nilck (.t 59)), zj 61 2 (.lea (.t 60) 25), zj 62 3 (.ld (.t 61) none), zj 64 5 (.val (.t 0)), zj 65 6 (.nilck (.t 64)), zj 66 7 (.lea (.t 65) 0), zj 67 8 (.lea (.t 66) 6), zj 68 9 (.ld (.t 67) none), zk 63 4 (.f 145) [(.t 62)], ⟨none, (.chk (.ld (.t 67) none) 68), none, none⟩, zj 69 10 (.bin .geq (.t 63) (.t 68)), zj 70 11 (.val (.t 69)), ⟨(some 71), (.i (.val (.t 0))), (some (70, false)), (some 12)⟩, ⟨(some 72), (.i (.nilck (.t 71))), (some (70, false)), (some 13)⟩, ⟨(some 73), (.i (.lea (.t 72) 24)), (some (70, false)), (some 14)⟩, ⟨(some 74), (.i (.ld (.t 73) none)), (some (70, false)), (some 15)⟩, ⟨(some 75), (.i (.val (.t 1))), (some (70, false)), (some 16)⟩, ⟨(some 76), (.i (.idxA (.t 74) (.t 75) 1)), (some (70, false)), (some 17)⟩, ⟨(some 77), (.i (.ld (.t 76) none)), (some (70, false)), (some 18)⟩, ⟨(some 78), (.i (.bin .add (.t 77) (.c (.int .u64 1)))), (some (70, false)), (some 19)⟩, ⟨(some 79), (.i (.val (.t 0))), (some (70, false)), (some 20)⟩, ⟨(some 80), (.i (.val (.t 1))), (some (70, false)), (some 21)⟩, ⟨(some 83), (.i (.val (.t 0))), (some (70, false)), (some 24)⟩, ⟨(some 84), (.i (.nilck (.t 83))), (some (70, false)), (some 25)⟩, ⟨(some 85), (.i (.lea (.t 84) 0)), (some (70, false)), (some 26)⟩, ⟨(some 86), (.i (.lea (.t 85) 7)), (some (70, false)), (some 27)⟩, ⟨(some 87), (.i (.ld (.t 86) none)), (some (70, false)), (some 28)⟩, ⟨(some 88), (.i (.conv .u64 (.t 87))), (some (70, false)), (some 29)⟩, ⟨(some 81), (.call (.f 146) [(.t 79), (.t 80)]), (some (70, false)), (some 22)⟩, ⟨none, (.chk (.ld (.t 73) none) 74), (some (70, false)), none⟩, ⟨none, (.chk (.ld (.t 76) none) 77), (some (70, false)), none⟩, ⟨none, (.chk (.ld (.t 86) none) 87), (some (70, false)), none⟩, ⟨(some 82), (.i (.bin .sub (.t 78) (.t 81))), (some (70, false)), (some 23)⟩, ⟨(some 89), (.i (.bin .geq (.t 82) (.t 88))), (some (70, false)), (some 30)⟩, zj 90 31 (.pick (.t 70) (.c (.bool true)) (.t 89)), zj 58 32 (.val (.t 90))])
 (.cond (.t 58)
 (.seq (.ops [zi 16 (.val (.c (.int .u64 0))), zi 17 (.val (.c (.int .i64 6)))])
 .ret)
 (.seq (.ops [zv 92 0, zi 93 (.nilck (.t 92)), zi 94 (.lea (.t 93) 24), zi 95 (.ld (.t 94) none), zv 96 1, zi 97 (.idxA (.t 95) (.t 96) 1), zi 98 (.ld (.t 97) none), zi 99 (.bin .eql (.t 98) (.c (.int .u64 72057594037927935))), zv 91 99])
 (.cond (.t 91)
 (.seq (.ops [zi 16 (.val (.c (.int .u64 0))), zi 17 (.val (.c (.int .i64 7)))])
 .ret)
 .skip)))))))
 (.seq (.ops [zv 100 0, zi 101 (.nilck (.t 100)), zi 102 (.lea (.t 101) 24), zi 103 (.ld (.t 102) none), zv 104 1, zi 105 (.idxA (.t 103) (.t 104) 1), zi 106 (.ld (.t 105) none), zi 107 (.bin .add (.t 106) (.c (.int .u64 1))), zi 108 (.idxA (.t 103) (.t 104) 1), zs (.st (.t 108) (.t 107) 1)])
 (.seq (.ops [zv 109 0, zi 110 (.nilck (.t 109)), zi 111 (.lea (.t 110) 24), zi 112 (.ld (.t 111) none), zv 113 1, zi 114 (.idxA (.t 112) (.t 113) 1), zi 115 (.ld (.t 114) none), zi 116 (.lea (.t 18) 1), zs (.st (.t 116) (.t 115) 1)])
 (.seq (.ops [zv 117 0, zi 118 (.ld (.t 18) (some 15)), zc 119 (.f 141) [(.t 117), (.t 118)]])
 (.seq (.ops [zi 120 (.lea (.t 18) 1), zi 121 (.ld (.t 120) none), zv 16 121, zi 17 (.val (.c (.int .i64 0)))])
 .ret))))))))
theorem fm122 (prim : PrimF) (h : prim 122 = none) : FnM (tE prim) 122 m122 [(.t 16), (.t 17)] 8 :=
 ⟨h, _, _, rfl, rfl, by kernel_rfl, by kernel_rfl, by decide⟩

/-- slices.BinarySearch[[]uint64,uint64] -/
noncomputable def m126 : MC :=
 (.seq (.ops [zi 4 (.val (.c (.int .i64 0))), zi 5 (.val (.c (.bool false)))])
 (.seq (.ops [zv 10 0, zi 11 (.lenS (.t 10)), zv 6 11])
 (.seq (.ops [zv 12 6, zi 7 (.val (.c (.int .i64 0))), zv 8 12])
 (.seq (.block 0 (.loop (.seq (.seq (.ops [zv 13 7, zv 14 8, zi 15 (.bin .lss (.t 13) (.t 14))])
 (.cond (.t 15)
 .skip
 (.exit 0)))
 (.block 1 (.seq (.ops [zv 16 7, zv 17 8, zi 18 (.bin .add (.t 16) (.t 17)), zi 19 (.conv .u64 (.t 18)), zi 20 (.bin .shr (.t 19) (.c (.int .u64 1))), zi 21 (.conv .i64 (.t 20)), zv 9 21])
 (.seq (.ops [zv 22 0, zv 23 9, zi 24 (.idxA (.t 22) (.t 23) 1), zi 25 (.ld (.t 24) none), zv 26 1, zc 27 (.f 149) [(.t 25), (.t 26)]])
 (.cond (.t 27)
 (.ops [zv 28 9, zi 29 (.bin .add (.t 28) (.c (.int .i64 1))), zv 7 29])
 (.ops [zv 30 9, zv 8 30]))))))))
 (.seq (.ops [zv 31 7, zv 32 7, zv 33 6, zi 34 (.bin .lss (.t 32) (.t 33)), zv 35 34, zg 36 35 true (.val (.t 0)), zg 37 35 true (.val (.t 7)), zg 38 35 true (.idxA (.t 36) (.t 37) 1), zg 39 35 true (.ld (.t 38) none), zg 40 35 true (.val (.t 1)), zg 41 35 true (.bin .eql (.t 39) (.t 40)), zg 42 35 true (.val (.t 41)), zg 43 42 false (.val (.t 0)), zg 44 42 false (.val (.t 7)), zg 45 42 false (.idxA (.t 43) (.t 44) 1), zg 46 42 false (.ld (.t 45) none), ⟨(some 47), (.call (.f 150) [(.t 46)]), (some (42, false)), none⟩, zg 48 42 false (.val (.t 47)), zg 49 48 true (.val (.t 1)), ⟨(some 50), (.call (.f 150) [(.t 49)]), (some (48, true)), none⟩, zg 51 42 false (.pick (.t 48) (.t 50) (.c (.bool false))), zg 52 35 true (.pick (.t 42) (.c (.bool true)) (.t 51)), zi 53 (.pick (.t 35) (.t 52) (.c (.bool false))), zv 4 31, zv 5 53])
 .ret)))))
theorem fm126 (prim : PrimF) (h : prim 126 = none) : FnM (tE prim) 126 m126 [(.t 4), (.t 5)] 2 :=
 ⟨h, _, _, rfl, rfl, by kernel_rfl, by kernel_rfl, by decide⟩

/-- mooring/arena.Class -/
noncomputable def m127 : MC :=
 (.seq (.ops [zi 2 (.val (.c (.int .i64 0)))])
 (.seq (.seq (.ops [zv 4 0, zi 5 (.bin .lss (.t 4) (.c (.int .i64 1))), zv 6 5, zg 7 6 false (.val (.t 0)), zg 8 6 false (.bin .gtr (.t 7) (.c (.int .i64 16))), zi 9 (.pick (.t 6) (.c (.bool true)) (.t 8))])
 (.cond (.t 9)
 (.seq (.ops [zi 2 (.val (.c (.int .i64 0)))])
 .ret)
 .skip))
 (.seq (.ops [zi 3 (.val (.c (.int .i64 1)))])
 (.seq (.block 0 (.loop (.seq (.seq (.ops [zv 10 3, zv 11 0, zi 12 (.bin .lss (.t 10) (.t 11))])
 (.cond (.t 12)
 .skip
 (.exit 0)))
 (.block 1 (.ops [zv 13 3, zi 14 (.bin .shl (.t 13) (.c (.int .u64 1))), zv 3 14])))))
 (.seq (.ops [zv 15 3, zv 2 15])
 .ret)))))
theorem fm127 (prim : PrimF) (h : prim 127 = none) : FnM (tE prim) 127 m127 [(.t 2)] 1 :=
 ⟨h, _, _, rfl, rfl, by kernel_rfl, by kernel_rfl, by decide⟩

/-- mooring/arena.full -/
noncomputable def m128 : MC :=
 (.seq (.ops [zi 2 (.val (.c (.int .u16 0)))])
 (.seq (.ops [zv 3 0, zi 4 (.bin .quo (.c (.int .i64 16)) (.t 3)), zi 5 (.bin .shl (.c (.int .u16 1)) (.t 4)), zi 6 (.bin .sub (.t 5) (.c (.int .u16 1))), zv 2 6])
 .ret))
theorem fm128 (prim : PrimF) (h : prim 128 = none) : FnM (tE prim) 128 m128 [(.t 2)] 1 :=
 ⟨h, _, _, rfl, rfl, by kernel_rfl, by kernel_rfl, by decide⟩

/-- (*mooring/arena.Arena).take -/
noncomputable def m129 : MC :=
 (.seq (.ops [zi 4 (.val (.c (.int .i64 0)))])
 (.seq (.ops [zi 5 (.val (.c (.int .i64 0)))])
 (.seq (.block 0 (.loop (.seq (.seq (.ops [zv 6 0, zi 7 (.nilck (.t 6)), zi 8 (.lea (.t 7) 1), zi 9 (.ld (.t 8) none), zv 10 1, zi 11 (.idxA (.t 9) (.t 10) 1), zi 12 (.ld (.t 11) none), zv 13 5, zi 14 (.bin .shr (.t 12) (.t 13)), zi 15 (.bin .and (.t 14) (.c (.int .u16 1))), zi 16 (.bin .eql (.t 15) (.c (.int .u16 1)))])
 (.cond (.t 16)
 .skip
 (.exit 0)))
 (.block 1 (.ops [zv 17 5, zi 18 (.bin .add (.t 17) (.c (.int .i64 1))), zv 5 18])))))
 (.seq (.draw 12 [zj 19 0 (.val (.t 0)), zj 20 1 (.nilck (.t 19)), zj 21 2 (.lea (.t 20) 1), zj 22 3 (.ld (.t 21) none), zj 23 4 (.val (.t 1)), zj 24 5 (.idxA (.t 22) (.t 23) 1), zj 25 6 (.ld (.t 24) none), zj 26 7 (.val (.t 5)), zj 27 8 (.bin .shl (.c (.int .u16 1)) (.t 26)), zj 28 9 (.bin .or (.t 25) (.t 27)), zj 29 10 (.idxA (.t 22) (.t 23) 1), zq 11 (.st (.t 29) (.t 28) 1)])
 (.seq (.ops [zv 30 1, zi 31 (.bin .mul (.t 30) (.c (.int .i64 16))), zv 32 5, zv 33 0, zi 34 (.nilck (.t 33)), zi 35 (.lea (.t 34) 0), zi 36 (.ld (.t 35) none), zv 37 1, zi 38 (.idxA (.t 36) (.t 37) 1), zi 39 (.ld (.t 38) none), zi 40 (.bin .mul (.t 32) (.t 39)), zi 41 (.bin .add (.t 31) (.t 40)), zv 4 41])
 .ret)))))
theorem fm129 (prim : PrimF) (h : prim 129 = none) : FnM (tE prim) 129 m129 [(.t 4)] 2 :=
 ⟨h, _, _, rfl, rfl, by kernel_rfl, by kernel_rfl, by decide⟩

/-- (*mooring/stub.Table).Get -/
noncomputable def m132 : MC :=
 (.seq (.ops [zi 3 (.box (.t 1)), zi 4 (.alloc [(.int .i64 0), (.int .u64 0), (.int .i64 0), (.int .u64 0), (.int .i64 0), (.int .u64 0), (.int .u64 0), (.int .u64 0), (.int .i64 0)]), zi 5 (.val (.c (.bool false)))])
 (.seq (.draw 13 [zj 9 0 (.val (.t 0)), zj 10 1 (.nilck (.t 9)), zj 11 2 (.lea (.t 10) 0), zj 12 3 (.ld (.t 11) none), zj 13 4 (.ld (.t 3) (some 2)), zk 14 5 (.f 151) [(.t 13)], ⟨none, (.chk (.ld (.t 11) none) 12), none, none⟩, zk 15 6 (.f 88) [(.t 12), (.t 14)], zj 8 7 (.val (.t 15)), zj 16 8 (.ext (.t 8) 0), zj 17 9 (.ext (.t 8) 1), zj 6 10 (.alloc [(.int .i64 0), (.int .u64 0), (.int .i64 0), (.int .u64 0), (.int .i64 0), (.int .u64 0), (.int .u64 0), (.int .u64 0), (.int .i64 0)]), zq 11 (.st (.t 6) (.t 16) 9), zj 7 12 (.val (.t 17))])
 (.seq (.seq (.ops [zv 18 7, zi 19 (.not (.t 18)), zv 20 19, zg 21 20 false (.lea (.t 6) 0), zg 22 20 false (.ld (.t 21) (some 2)), zg 23 20 false (.ld (.t 3) (some 2)), zg 24 20 false (.eqv 54 true (.t 22) (.t 23)), zi 25 (.pick (.t 20) (.c (.bool true)) (.t 24))])
 (.cond (.t 25)
 (.seq (.ops [zi 26 (.bld [(.int .i64 0), (.int .u64 0), (.int .i64 0), (.int .u64 0), (.int .i64 0), (.int .u64 0), (.int .u64 0), (.int .u64 0), (.int .i64 0)] []), zs (.st (.t 4) (.t 26) 9), zi 5 (.val (.c (.bool false)))])
 .ret)
 .skip))
 (.seq (.ops [zi 27 (.ld (.t 6) (some 9)), zs (.st (.t 4) (.t 27) 9), zi 5 (.val (.c (.bool true)))])
 .ret))))
theorem fm132 (prim : PrimF) (h : prim 132 = none) : FnM (tE prim) 132 m132 [(.cell 4 (some 9)), (.t 5)] 2 :=
 ⟨h, _, _, rfl, rfl, by kernel_rfl, by kernel_rfl, by decide⟩

/-- mooring/heap.in -/
noncomputable def m134 : MC :=
 (.seq (.ops [zi 4 (.val (.c (.bool false)))])
 (.seq (.ops [zv 5 0, zi 6 (.bin .geq (.t 5) (.c (.int .i64 0))), zv 7 6, zg 8 7 true (.val (.t 0)), zg 9 7 true (.val (.t 1)), zg 10 7 true (.bin .lss (.t 8) (.t 9)), zi 11 (.pick (.t 7) (.t 10) (.c (.bool false))), zv 4 11])
 .ret))
theorem fm134 (prim : PrimF) (h : prim 134 = none) : FnM (tE prim) 134 m134 [(.t 4)] 2 :=
 ⟨h, _, _, rfl, rfl, by kernel_rfl, by kernel_rfl, by decide⟩

/-- mooring/heap.right -/
noncomputable def m135 : MC :=
 (.seq (.ops [zi 1 (.box (.t 0)), zi 2 (.val (.c (.bool false)))])
 (.seq (.ops [zi 3 (.ld (.t 1) (some 2)), zi 4 (.bld [(.int .i64 0), (.int .u64 0)] []), zi 5 (.eqv 54 false (.t 3) (.t 4)), zv 6 5, zg 7 6 false (.lea (.t 1) 0), zg 8 6 false (.ld (.t 7) none), zg 9 6 false (.bin .geq (.t 8) (.c (.int .i64 1))), zg 10 6 false (.val (.t 9)), zg 11 10 true (.lea (.t 1) 0), zg 12 10 true (.ld (.t 11) none), zg 13 10 true (.bin .leq (.t 12) (.c (.int .i64 64))), zg 14 6 false (.pick (.t 10) (.t 13) (.c (.bool false))), zg 15 6 false (.val (.t 14)), zg 16 15 true (.lea (.t 1) 1), zg 17 15 true (.ld (.t 16) none), zg 18 15 true (.bin .geq (.t 17) (.c (.int .u64 1))), zg 19 6 false (.pick (.t 15) (.t 18) (.c (.bool false))), zg 20 6 false (.val (.t 19)), zg 21 20 true (.lea (.t 1) 1), zg 22 20 true (.ld (.t 21) none), zg 23 20 true (.bin .leq (.t 22) (.c (.int .u64 72057594037927935))), zg 24 6 false (.pick (.t 20) (.t 23) (.c (.bool false))), zi 25 (.pick (.t 6) (.c (.bool true)) (.t 24)), zv 2 25])
 .ret))
theorem fm135 (prim : PrimF) (h : prim 135 = none) : FnM (tE prim) 135 m135 [(.t 2)] 1 :=
 ⟨h, _, _, rfl, rfl, by kernel_rfl, by kernel_rfl, by decide⟩

/-- (*mooring/caller.Table).get -/
noncomputable def m137 : MC :=
 (.seq (.ops [zi 6 (.alloc [(.int .i64 0), (.int .u64 0), (.int .i64 0), (.int .i64 0), (.int .i64 0), (.int .u64 0), (.slice none 0 0), (.int .u64 0), (.int .i64 0), (.int .i64 0), (.slice none 0 0), (.int .u64 0), (.int .u64 0), (.int .u64 0), (.int .u64 0)]), zi 7 (.val (.c (.bool false)))])
 (.seq (.seq (.ops [zv 8 0, zv 9 1, zc 10 (.f 153) [(.t 8), (.t 9)], zi 11 (.not (.t 10)), zv 12 11, zg 13 12 false (.val (.t 2)), zg 14 12 false (.bin .gtr (.t 13) (.c (.int .u64 72057594037927935))), zi 15 (.pick (.t 12) (.c (.bool true)) (.t 14))])
 (.cond (.t 15)
 (.seq (.ops [zi 16 (.bld [(.int .i64 0), (.int .u64 0), (.int .i64 0), (.int .i64 0), (.int .i64 0), (.int .u64 0), (.slice none 0 0), (.int .u64 0), (.int .i64 0), (.int .i64 0), (.slice none 0 0), (.int .u64 0), (.int .u64 0), (.int .u64 0), (.int .u64 0)] []), zs (.st (.t 6) (.t 16) 15), zi 7 (.val (.c (.bool false)))])
 .ret)
 .skip))
 (.seq (.draw 12 [zj 17 0 (.val (.t 0)), zj 18 1 (.nilck (.t 17)), zj 19 2 (.lea (.t 18) 25), zj 20 3 (.ld (.t 19) none), zj 21 4 (.val (.t 1)), zj 22 5 (.val (.t 2)), zk 23 6 (.f 139) [(.t 21), (.t 22)], ⟨none, (.chk (.ld (.t 19) none) 20), none, none⟩, zk 24 7 (.f 92) [(.t 20), (.t 23)], zj 25 8 (.ext (.t 24) 0), zj 26 9 (.ext (.t 24) 1), zq 10 (.st (.t 6) (.t 25) 15), zj 7 11 (.val (.t 26))])
 .ret)))
theorem fm137 (prim : PrimF) (h : prim 137 = none) : FnM (tE prim) 137 m137 [(.cell 6 (some 15)), (.t 7)] 3 :=
 ⟨h, _, _, rfl, rfl, by kernel_rfl, by kernel_rfl, by decide⟩

/-- mooring/caller.key -/
noncomputable def m139 : MC :=
 (.seq (.ops [zi 4 (.val (.c (.int .u64 0)))])
 (.seq (.ops [zv 5 0, zv 6 1, zi 7 (.bld [(.int .i64 0), (.int .u64 0)] [(0, 1, (.t 5)), (1, 1, (.t 6))]), zc 8 (.f 151) [(.t 7)], zv 4 8])
 .ret))
theorem fm139 (prim : PrimF) (h : prim 139 = none) : FnM (tE prim) 139 m139 [(.t 4)] 2 :=
 ⟨h, _, _, rfl, rfl, by kernel_rfl, by kernel_rfl, by decide⟩

/-- mooring/clock.Past -/
noncomputable def m140 : MC :=
 (.seq (.ops [zi 6 (.val (.c (.bool false)))])
 (.seq (.ops [zv 7 2, zv 8 0, zi 9 (.bin .geq (.t 7) (.t 8)), zv 10 9, zg 11 10 true (.val (.t 2)), zg 12 10 true (.val (.t 0)), zg 13 10 true (.bin .sub (.t 11) (.t 12)), zg 14 10 true (.val (.t 1)), zg 15 10 true (.bin .geq (.t 13) (.t 14)), zi 16 (.pick (.t 10) (.t 15) (.c (.bool false))), zv 6 16])
 .ret))
theorem fm140 (prim : PrimF) (h : prim 140 = none) : FnM (tE prim) 140 m140 [(.t 6)] 3 :=
 ⟨h, _, _, rfl, rfl, by kernel_rfl, by kernel_rfl, by decide⟩

/-- (*mooring/caller.Table).put -/
noncomputable def m141 : MC :=
 (.seq (.ops [zi 3 (.box (.t 1))])
 (.draw 11 [zj 4 0 (.val (.t 0)), zj 5 1 (.nilck (.t 4)), zj 6 2 (.lea (.t 5) 25), zj 7 3 (.ld (.t 6) none), zj 8 4 (.lea (.t 3) 0), zj 9 5 (.ld (.t 8) none), zj 10 6 (.lea (.t 3) 1), zj 11 7 (.ld (.t 10) none), zj 13 9 (.ld (.t 3) (some 15)), zk 12 8 (.f 139) [(.t 9), (.t 11)], ⟨none, (.chk (.ld (.t 6) none) 7), none, none⟩, ⟨none, (.chk (.ld (.t 3) (some 15)) 13), none, none⟩, zk 14 10 (.f 156) [(.t 7), (.t 12), (.t 13)]]))
theorem fm141 (prim : PrimF) (h : prim 141 = none) : FnM (tE prim) 141 m141 [] 2 :=
 ⟨h, _, _, rfl, rfl, by kernel_rfl, by kernel_rfl, by decide⟩

/-- mooring/wire.Right -/
noncomputable def m143 : MC :=
 (.seq (.ops [zi 1 (.box (.t 0)), zi 2 (.val (.c (.bool false)))])
 (.seq (.ops [zi 5 (.lea (.t 1) 0), zi 6 (.ld (.t 5) none), zc 7 (.f 157) [(.t 6)], zv 3 7])
 (.seq (.seq (.ops [zv 8 3, zi 9 (.bin .eql (.t 8) (.c (.int .i64 0))), zv 10 9, zg 11 10 false (.lea (.t 1) 1), zg 12 10 false (.ld (.t 11) none), ⟨(some 13), (.call (.f 158) [(.t 12), (.c (.int .i64 1)), (.c (.int .i64 64))]), (some (10, false)), none⟩, zg 14 10 false (.not (.t 13)), zi 15 (.pick (.t 10) (.c (.bool true)) (.t 14)), zv 16 15, zg 17 16 false (.lea (.t 1) 2), zg 18 16 false (.ld (.t 17) none), ⟨(some 19), (.call (.f 158) [(.t 18), (.c (.int .i64 1)), (.c (.int .i64 64))]), (some (16, false)), none⟩, zg 20 16 false (.not (.t 19)), zi 21 (.pick (.t 16) (.c (.bool true)) (.t 20)), zv 22 21, zg 23 22 false (.lea (.t 1) 1), zg 24 22 false (.ld (.t 23) none), zg 25 22 false (.lea (.t 1) 2), zg 26 22 false (.ld (.t 25) none), zg 27 22 false (.bin .eql (.t 24) (.t 26)), zi 28 (.pick (.t 22) (.c (.bool true)) (.t 27))])
 (.cond (.t 28)
 (.seq (.ops [zi 2 (.val (.c (.bool false)))])
 .ret)
 .skip))
 (.seq (.seq (.ops [zi 4 (.val (.c (.int .i64 1)))])
 (.block 0 (.loop (.seq (.seq (.ops [zv 29 4, zi 30 (.bin .lss (.t 29) (.c (.int .i64 32768)))])
 (.cond (.t 30)
 .skip
 (.exit 0)))
 (.seq (.block 1 (.seq (.ops [zv 33 3, zv 34 4, zi 35 (.bin .and (.t 33) (.t 34)), zi 36 (.bin .neq (.t 35) (.c (.int .i64 0))), zv 37 36, zg 38 37 true (.ld (.t 1) (some 19)), zg 39 37 true (.val (.t 4)), ⟨(some 40), (.call (.f 159) [(.t 38), (.t 39)]), (some (37, true)), none⟩, zg 41 37 true (.not (.t 40)), zi 42 (.pick (.t 37) (.t 41) (.c (.bool false))), zv 43 42, zg 44 43 false (.val (.t 3)), zg 45 43 false (.val (.t 4)), zg 46 43 false (.bin .and (.t 44) (.t 45)), zg 47 43 false (.bin .eql (.t 46) (.c (.int .i64 0))), zg 48 43 false (.val (.t 47)), zg 49 48 true (.ld (.t 1) (some 19)), zg 50 48 true (.val (.t 4)), ⟨(some 51), (.call (.f 160) [(.t 49), (.t 50)]), (some (48, true)), none⟩, zg 52 48 true (.not (.t 51)), zg 53 43 false (.pick (.t 48) (.t 52) (.c (.bool false))), zi 54 (.pick (.t 43) (.c (.bool true)) (.t 53))])
 (.cond (.t 54)
 (.seq (.ops [zi 2 (.val (.c (.bool false)))])
 .ret)
 .skip)))
 (.ops [zv 31 4, zi 32 (.bin .shl (.t 31) (.c (.int .u64 1))), zv 4 32]))))))
 (.seq (.ops [zi 2 (.val (.c (.bool true)))])
 .ret)))))
theorem fm143 (prim : PrimF) (h : prim 143 = none) : FnM (tE prim) 143 m143 [(.t 2)] 1 :=
 ⟨h, _, _, rfl, rfl, by kernel_rfl, by kernel_rfl, by decide⟩

/-- (*mooring/caller.Table).asks -/
noncomputable def m144 : MC :=
 (.seq (.ops [zi 4 (.box (.t 1)), zi 6 (.alloc [(.int .i64 0), (.int .i64 0), (.int .i64 0), (.int .u64 0), (.int .u64 0), (.int .i64 0), (.int .i64 0), (.int .i64 0), (.int .i64 0), (.int .u64 0), (.slice none 0 0), (.int .u64 0), (.int .i64 0), (.int .u64 0), (.int .i64 0), (.int .u64 0), (.int .i64 0), (.int .u64 0), (.slice none 0 0)])])
 (.seq (.draw 23 [zj 7 0 (.val (.t 0)), zj 8 1 (.nilck (.t 7)), zj 9 2 (.lea (.t 8) 22), zj 10 3 (.ld (.t 9) none), zj 11 4 (.lea (.t 4) 0), zj 12 5 (.ld (.t 11) none), zj 13 6 (.lea (.t 4) 1), zj 14 7 (.ld (.t 13) none), zj 15 8 (.val (.t 2)), zj 16 9 (.lea (.t 4) 2), zj 17 10 (.ld (.t 16) none), zj 18 11 (.lea (.t 4) 3), zj 19 12 (.ld (.t 18) none), zj 20 13 (.lea (.t 4) 4), zj 21 14 (.ld (.t 20) (some 2)), zj 22 15 (.lea (.t 4) 7), zj 23 16 (.ld (.t 22) none), zj 25 18 (.lea (.t 4) 6), zj 26 19 (.ld (.t 25) none), zj 24 17 (.gen (.buildSlice 55 0 #[])), zj 27 20 (.gen (.call ⟨.builtin .append, #[(.tmp 24), (.tmp 26)], #[55, 55]⟩)), ⟨none, (.chk (.ld (.t 9) none) 10), none, none⟩, ⟨none, (.chk (.ld (.t 11) none) 12), none, none⟩, ⟨none, (.chk (.ld (.t 13) none) 14), none, none⟩, ⟨none, (.chk (.ld (.t 16) none) 17), none, none⟩, ⟨none, (.chk (.ld (.t 18) none) 19), none, none⟩, ⟨none, (.chk (.ld (.t 20) (some 2)) 21), none, none⟩, ⟨none, (.chk (.ld (.t 22) none) 23), none, none⟩, zj 28 21 (.bld [(.int .i64 0), (.int .i64 0), (.int .i64 0), (.int .u64 0), (.int .u64 0), (.int .i64 0), (.int .i64 0), (.int .i64 0), (.int .i64 0), (.int .u64 0), (.slice none 0 0), (.int .u64 0), (.int .i64 0), (.int .u64 0), (.int .i64 0), (.int .u64 0), (.int .i64 0), (.int .u64 0), (.slice none 0 0)] [(0, 1, (.c (.int .i64 1))), (1, 1, (.t 10)), (2, 1, (.t 12)), (3, 1, (.t 14)), (4, 1, (.t 15)), (5, 1, (.t 17)), (6, 1, (.t 19)), (8, 2, (.t 21)), (11, 1, (.t 23)), (10, 1, (.t 27))]), zq 22 (.st (.t 6) (.t 28) 19)])
 .ret))
theorem fm144 (prim : PrimF) (h : prim 144 = none) : FnM (tE prim) 144 m144 [(.cell 6 (some 19))] 3 :=
 ⟨h, _, _, rfl, rfl, by kernel_rfl, by kernel_rfl, by decide⟩

/-- (*mooring/table.Table[uint64, mooring/api.Call]).Len -/
noncomputable def m145 : MC :=
 (.seq (.ops [zi 2 (.val (.c (.int .i64 0)))])
 (.seq (.ops [zv 3 0, zi 4 (.nilck (.t 3)), zi 5 (.lea (.t 4) 0), zi 6 (.ld (.t 5) none), zi 7 (.lenS (.t 6)), zv 2 7])
 .ret))
theorem fm145 (prim : PrimF) (h : prim 145 = none) : FnM (tE prim) 145 m145 [(.t 2)] 1 :=
 ⟨h, _, _, rfl, rfl, by kernel_rfl, by kernel_rfl, by decide⟩

/-- (*mooring/caller.Table).Floor -/
noncomputable def m146 : MC :=
 (.seq (.ops [zi 4 (.val (.c (.int .u64 0)))])
 (.seq (.seq (.ops [zv 7 0, zv 8 1, zc 9 (.f 153) [(.t 7), (.t 8)], zi 10 (.not (.t 9))])
 (.cond (.t 10)
 (.seq (.ops [zi 4 (.val (.c (.int .u64 0)))])
 .ret)
 .skip))
 (.seq (.draw 12 [zj 12 0 (.val (.t 0)), zj 13 1 (.nilck (.t 12)), zj 14 2 (.lea (.t 13) 25), zj 15 3 (.ld (.t 14) none), zj 16 4 (.val (.t 1)), zk 17 5 (.f 139) [(.t 16), (.c (.int .u64 0))], ⟨none, (.chk (.ld (.t 14) none) 15), none, none⟩, zk 18 6 (.f 161) [(.t 15), (.t 17)], zj 11 7 (.val (.t 18)), zj 19 8 (.ext (.t 11) 0), zj 20 9 (.ext (.t 11) 1), zj 5 10 (.val (.t 19)), zj 6 11 (.val (.t 20))])
 (.seq (.seq (.ops [zv 21 6, zi 22 (.not (.t 21)), zv 23 22, zg 24 23 false (.val (.t 5)), zg 25 23 false (.bin .shr (.t 24) (.c (.int .u64 56))), zg 26 23 false (.conv .i64 (.t 25)), zg 27 23 false (.val (.t 1)), zg 28 23 false (.bin .neq (.t 26) (.t 27)), zi 29 (.pick (.t 23) (.c (.bool true)) (.t 28))])
 (.cond (.t 29)
 (.seq (.ops [zv 30 0, zi 31 (.nilck (.t 30)), zi 32 (.lea (.t 31) 24), zi 33 (.ld (.t 32) none), zv 34 1, zi 35 (.idxA (.t 33) (.t 34) 1), zi 36 (.ld (.t 35) none), zi 37 (.bin .add (.t 36) (.c (.int .u64 1))), zv 4 37])
 .ret)
 .skip))
 (.seq (.ops [zv 38 5, zi 39 (.bin .and (.t 38) (.c (.int .u64 72057594037927935))), zv 4 39])
 .ret)))))
theorem fm146 (prim : PrimF) (h : prim 146 = none) : FnM (tE prim) 146 m146 [(.t 4)] 2 :=
 ⟨h, _, _, rfl, rfl, by kernel_rfl, by kernel_rfl, by decide⟩

/-- cmp.Less[uint64] -/
noncomputable def m149 : MC :=
 (.seq (.ops [zi 4 (.val (.c (.bool false)))])
 (.seq (.ops [zv 5 0, zc 6 (.f 163) [(.t 5)], zv 7 6, zg 8 7 true (.val (.t 1)), ⟨(some 9), (.call (.f 163) [(.t 8)]), (some (7, true)), none⟩, zg 10 7 true (.not (.t 9)), zi 11 (.pick (.t 7) (.t 10) (.c (.bool false))), zv 12 11, zg 13 12 false (.val (.t 0)), zg 14 12 false (.val (.t 1)), zg 15 12 false (.bin .lss (.t 13) (.t 14)), zi 16 (.pick (.t 12) (.c (.bool true)) (.t 15)), zv 4 16])
 .ret))
theorem fm149 (prim : PrimF) (h : prim 149 = none) : FnM (tE prim) 149 m149 [(.t 4)] 2 :=
 ⟨h, _, _, rfl, rfl, by kernel_rfl, by kernel_rfl, by decide⟩

/-- slices.isNaN[uint64] -/
noncomputable def m150 : MC :=
 (.seq (.ops [zi 2 (.val (.c (.bool false)))])
 (.seq (.ops [zv 3 0, zv 4 0, zi 5 (.bin .neq (.t 3) (.t 4)), zv 2 5])
 .ret))
theorem fm150 (prim : PrimF) (h : prim 150 = none) : FnM (tE prim) 150 m150 [(.t 2)] 1 :=
 ⟨h, _, _, rfl, rfl, by kernel_rfl, by kernel_rfl, by decide⟩

/-- mooring/api.Key -/
noncomputable def m151 : MC :=
 (.seq (.ops [zi 1 (.box (.t 0)), zi 2 (.val (.c (.int .u64 0)))])
 (.seq (.ops [zi 3 (.lea (.t 1) 0), zi 4 (.ld (.t 3) none), zi 5 (.conv .u64 (.t 4)), zi 6 (.bin .shl (.t 5) (.c (.int .u64 56))), zi 7 (.lea (.t 1) 1), zi 8 (.ld (.t 7) none), zi 9 (.bin .or (.t 6) (.t 8)), zv 2 9])
 .ret))
theorem fm151 (prim : PrimF) (h : prim 151 = none) : FnM (tE prim) 151 m151 [(.t 2)] 1 :=
 ⟨h, _, _, rfl, rfl, by kernel_rfl, by kernel_rfl, by decide⟩

/-- (*mooring/caller.Table).other -/
noncomputable def m153 : MC :=
 (.seq (.ops [zi 4 (.val (.c (.bool false)))])
 (.seq (.ops [zv 5 1, zi 6 (.bin .geq (.t 5) (.c (.int .i64 1))), zv 7 6, zg 8 7 true (.val (.t 1)), zg 9 7 true (.val (.t 0)), zg 10 7 true (.nilck (.t 9)), zg 11 7 true (.lea (.t 10) 0), zg 12 7 true (.lea (.t 11) 0), zg 13 7 true (.ld (.t 12) none), zg 14 7 true (.bin .leq (.t 8) (.t 13)), zi 15 (.pick (.t 7) (.t 14) (.c (.bool false))), zv 16 15, zg 17 16 true (.val (.t 1)), zg 18 16 true (.val (.t 0)), zg 19 16 true (.nilck (.t 18)), zg 20 16 true (.lea (.t 19) 22), zg 21 16 true (.ld (.t 20) none), zg 22 16 true (.bin .neq (.t 17) (.t 21)), zi 23 (.pick (.t 16) (.t 22) (.c (.bool false))), zv 4 23])
 .ret))
theorem fm153 (prim : PrimF) (h : prim 153 = none) : FnM (tE prim) 153 m153 [(.t 4)] 2 :=
 ⟨h, _, _, rfl, rfl, by kernel_rfl, by kernel_rfl, by decide⟩

/-- (*mooring/table.Table[uint64, mooring/api.Call]).Put -/
noncomputable def m156 : MC :=
 (.seq (.ops [zi 5 (.box (.t 2)), zi 6 (.val (.c (.bool false)))])
 (.seq (.ops [zv 10 0, zi 11 (.nilck (.t 10)), zi 12 (.lea (.t 11) 0), zi 13 (.ld (.t 12) none), zv 14 1, zc 15 (.f 126) [(.t 13), (.t 14)], zv 9 15, zi 16 (.ext (.t 9) 0), zi 17 (.ext (.t 9) 1), zv 7 16, zv 8 17])
 (.seq (.block 0 (.seq (.ops [zv 41 8, zv 40 41])
 (.cond (.t 40)
 (.draw 8 [zj 42 0 (.val (.t 0)), zj 43 1 (.nilck (.t 42)), zj 44 2 (.lea (.t 43) 1), zj 45 3 (.ld (.t 44) none), zj 46 4 (.val (.t 7)), zj 47 5 (.ld (.t 5) (some 15)), zj 48 6 (.idxA (.t 45) (.t 46) 15), zq 7 (.st (.t 48) (.t 47) 15)])
 (.seq (.draw 11 [zj 50 0 (.val (.t 0)), zj 51 1 (.nilck (.t 50)), zj 52 2 (.lea (.t 51) 0), zj 53 3 (.ld (.t 52) none), zj 54 4 (.lenS (.t 53)), zj 55 5 (.val (.t 0)), zj 56 6 (.nilck (.t 55)), zj 57 7 (.lea (.t 56) 2), zj 58 8 (.ld (.t 57) none), zj 59 9 (.bin .geq (.t 54) (.t 58)), zj 49 10 (.val (.t 59))])
 (.cond (.t 49)
 (.seq (.ops [zi 6 (.val (.c (.bool false)))])
 .ret)
 (.seq (.ops [zv 18 0, zv 19 0, zi 20 (.nilck (.t 19)), zi 21 (.lea (.t 20) 0), zi 22 (.ld (.t 21) none), zv 23 7, zv 24 1, zi 25 (.gen (.buildSlice 36 1 #[(0, (.tmp 24))])), zc 26 (.f 164) [(.t 22), (.t 23), (.t 25)], zi 27 (.nilck (.t 18)), zi 28 (.lea (.t 27) 0), zs (.st (.t 28) (.t 26) 1)])
 (.draw 12 [zj 29 0 (.val (.t 0)), zj 30 1 (.val (.t 0)), zj 31 2 (.nilck (.t 30)), zj 32 3 (.lea (.t 31) 1), zj 33 4 (.ld (.t 32) none), zj 34 5 (.val (.t 7)), zj 35 6 (.ld (.t 5) (some 15)), zj 36 7 (.gen (.buildSlice 37 1 #[(0, (.tmp 35))])), zk 37 8 (.f 165) [(.t 33), (.t 34), (.t 36)], zj 38 9 (.nilck (.t 29)), zj 39 10 (.lea (.t 38) 1), zq 11 (.st (.t 39) (.t 37) 1)])))))))
 (.seq (.ops [zi 6 (.val (.c (.bool true)))])
 .ret))))
theorem fm156 (prim : PrimF) (h : prim 156 = none) : FnM (tE prim) 156 m156 [(.t 6)] 3 :=
 ⟨h, _, _, rfl, rfl, by kernel_rfl, by kernel_rfl, by decide⟩

/-- mooring/wire.fields -/
noncomputable def m157 : MC :=
 (.seq (.ops [zi 2 (.val (.c (.int .i64 0)))])
 (.seq (.ops [zi 3 (.val (.c (.int .i64 0)))])
 (.seq (.seq (.ops [zv 4 0])
 (.block 0 (.seq (.block 10 (.seq (.block 9 (.seq (.block 8 (.seq (.block 7 (.seq (.block 6 (.seq (.block 5 (.seq (.block 4 (.seq (.block 3 (.seq (.block 2 (.seq (.block 1 (.seq (.seq (.seq (.ops [zi 6 (.bin .eql (.t 4) (.c (.int .i64 1))), zv 5 6])
 (.cond (.t 5)
 (.exit 1)
 .skip))
 (.seq (.seq (.ops [zi 8 (.bin .eql (.t 4) (.c (.int .i64 2))), zv 7 8])
 (.cond (.t 7)
 (.exit 2)
 .skip))
 (.seq (.seq (.ops [zi 10 (.bin .eql (.t 4) (.c (.int .i64 3))), zv 9 10])
 (.cond (.t 9)
 (.exit 3)
 .skip))
 (.seq (.seq (.ops [zi 12 (.bin .eql (.t 4) (.c (.int .i64 4))), zv 11 12])
 (.cond (.t 11)
 (.exit 4)
 .skip))
 (.seq (.seq (.seq (.ops [zi 14 (.bin .eql (.t 4) (.c (.int .i64 6))), zv 13 14])
 (.cond (.t 13)
 .skip
 (.ops [zi 15 (.bin .eql (.t 4) (.c (.int .i64 7))), zv 13 15])))
 (.cond (.t 13)
 (.exit 5)
 .skip))
 (.seq (.seq (.ops [zi 17 (.bin .eql (.t 4) (.c (.int .i64 5))), zv 16 17])
 (.cond (.t 16)
 (.exit 6)
 .skip))
 (.seq (.seq (.ops [zi 19 (.bin .eql (.t 4) (.c (.int .i64 8))), zv 18 19])
 (.cond (.t 18)
 (.exit 7)
 .skip))
 (.seq (.seq (.ops [zi 21 (.bin .eql (.t 4) (.c (.int .i64 9))), zv 20 21])
 (.cond (.t 20)
 (.exit 8)
 .skip))
 (.seq (.seq (.ops [zi 23 (.bin .eql (.t 4) (.c (.int .i64 11))), zv 22 23])
 (.cond (.t 22)
 (.exit 9)
 .skip))
 (.seq (.ops [zi 25 (.bin .eql (.t 4) (.c (.int .i64 10))), zv 24 25])
 (.cond (.t 24)
 (.exit 10)
 .skip)))))))))))
 (.exit 0)))
 (.seq (.seq (.ops [zi 2 (.val (.c (.int .i64 6203)))])
 .ret)
 (.exit 0))))
 (.ops [zv 26 3, zi 27 (.bin .or (.t 26) (.c (.int .i64 7168))), zv 3 27])))
 (.seq (.ops [zv 28 3, zi 29 (.bin .or (.t 28) (.c (.int .i64 1))), zv 3 29])
 (.exit 0))))
 (.ops [zv 30 3, zi 31 (.bin .or (.t 30) (.c (.int .i64 896))), zv 3 31])))
 (.seq (.ops [zv 32 3, zi 33 (.bin .or (.t 32) (.c (.int .i64 96))), zv 3 33])
 (.exit 0))))
 (.seq (.ops [zv 34 3, zi 35 (.bin .or (.t 34) (.c (.int .i64 1376))), zv 3 35])
 (.exit 0))))
 (.seq (.seq (.ops [zi 2 (.val (.c (.int .i64 45)))])
 .ret)
 (.exit 0))))
 (.ops [zv 36 3, zi 37 (.bin .or (.t 36) (.c (.int .i64 25600))), zv 3 37])))
 (.seq (.ops [zv 38 3, zi 39 (.bin .or (.t 38) (.c (.int .i64 5))), zv 3 39])
 (.exit 0))))
 (.seq (.ops [zv 40 3, zi 41 (.bin .or (.t 40) (.c (.int .i64 8229))), zv 3 41])
 (.exit 0)))))
 (.seq (.ops [zv 42 3, zv 2 42])
 .ret))))
theorem fm157 (prim : PrimF) (h : prim 157 = none) : FnM (tE prim) 157 m157 [(.t 2)] 1 :=
 ⟨h, _, _, rfl, rfl, by kernel_rfl, by kernel_rfl, by decide⟩

/-- mooring/wire.in -/
noncomputable def m158 : MC :=
 (.seq (.ops [zi 6 (.val (.c (.bool false)))])
 (.seq (.ops [zv 7 0, zv 8 1, zi 9 (.bin .geq (.t 7) (.t 8)), zv 10 9, zg 11 10 true (.val (.t 0)), zg 12 10 true (.val (.t 2)), zg 13 10 true (.bin .leq (.t 11) (.t 12)), zi 14 (.pick (.t 10) (.t 13) (.c (.bool false))), zv 6 14])
 .ret))
theorem fm158 (prim : PrimF) (h : prim 158 = none) : FnM (tE prim) 158 m158 [(.t 6)] 3 :=
 ⟨h, _, _, rfl, rfl, by kernel_rfl, by kernel_rfl, by decide⟩

/-- mooring/wire.fits -/
noncomputable def m159 : MC :=
 (.seq (.ops [zi 2 (.box (.t 0)), zi 4 (.val (.c (.bool false)))])
 (.seq (.seq (.ops [zv 5 1])
 (.block 0 (.seq (.ops [zi 7 (.bin .eql (.t 5) (.c (.int .i64 1))), zv 6 7])
 (.cond (.t 6)
 (.seq (.ops [zi 8 (.lea (.t 2) 3), zi 9 (.ld (.t 8) none), zc 10 (.f 166) [(.t 9)], zv 4 10])
 .ret)
 (.seq (.ops [zi 12 (.bin .eql (.t 5) (.c (.int .i64 2))), zv 11 12])
 (.cond (.t 11)
 (.seq (.ops [zi 13 (.lea (.t 2) 4), zi 14 (.ld (.t 13) none), zi 15 (.bin .geq (.t 14) (.c (.int .u64 1))), zv 16 15, zg 17 16 true (.lea (.t 2) 4), zg 18 16 true (.ld (.t 17) none), zg 19 16 true (.lea (.t 2) 3), zg 20 16 true (.ld (.t 19) none), zg 21 16 true (.bin .leq (.t 18) (.t 20)), zi 22 (.pick (.t 16) (.t 21) (.c (.bool false))), zv 4 22])
 .ret)
 (.seq (.ops [zi 24 (.bin .eql (.t 5) (.c (.int .i64 4))), zv 23 24])
 (.cond (.t 23)
 (.seq (.ops [zi 25 (.lea (.t 2) 7), zi 26 (.ld (.t 25) none), zc 27 (.f 158) [(.t 26), (.c (.int .i64 0)), (.c (.int .i64 4095))], zv 4 27])
 .ret)
 (.seq (.ops [zi 29 (.bin .eql (.t 5) (.c (.int .i64 8))), zv 28 29])
 (.cond (.t 28)
 (.seq (.draw 7 [zj 30 0 (.lea (.t 2) 5), zj 31 1 (.ld (.t 30) none), zj 32 2 (.lea (.t 2) 0), zj 33 3 (.ld (.t 32) none), zk 34 4 (.f 167) [(.t 33)], ⟨none, (.chk (.ld (.t 30) none) 31), none, none⟩, zk 35 5 (.f 158) [(.t 31), (.c (.int .i64 1)), (.t 34)], zj 4 6 (.val (.t 35))])
 .ret)
 (.seq (.ops [zi 37 (.bin .eql (.t 5) (.c (.int .i64 16))), zv 36 37])
 (.cond (.t 36)
 (.seq (.ops [zi 38 (.lea (.t 2) 6), zi 39 (.ld (.t 38) none), zc 40 (.f 158) [(.t 39), (.c (.int .i64 0)), (.c (.int .i64 63))], zv 4 40])
 .ret)
 (.seq (.ops [zi 42 (.bin .eql (.t 5) (.c (.int .i64 32))), zv 41 42])
 (.cond (.t 41)
 (.seq (.ops [zi 43 (.lea (.t 2) 8), zi 44 (.ld (.t 43) (some 2)), zc 45 (.f 168) [(.t 44)], zv 46 45, zg 47 46 true (.ld (.t 2) (some 19)), ⟨(some 48), (.call (.f 169) [(.t 47)]), (some (46, true)), none⟩, zi 49 (.pick (.t 46) (.t 48) (.c (.bool false))), zv 4 49])
 .ret)
 (.seq (.ops [zi 51 (.bin .eql (.t 5) (.c (.int .i64 64))), zv 50 51])
 (.cond (.t 50)
 (.seq (.ops [zi 52 (.lea (.t 2) 13), zi 53 (.ld (.t 52) none), zc 54 (.f 166) [(.t 53)], zv 4 54])
 .ret)
 (.seq (.ops [zi 56 (.bin .eql (.t 5) (.c (.int .i64 128))), zv 55 56])
 (.cond (.t 55)
 (.seq (.ops [zi 57 (.lea (.t 2) 14), zi 58 (.ld (.t 57) none), zc 59 (.f 158) [(.t 58), (.c (.int .i64 1)), (.c (.int .i64 64))], zv 4 59])
 .ret)
 (.seq (.ops [zi 61 (.bin .eql (.t 5) (.c (.int .i64 512))), zv 60 61])
 (.cond (.t 60)
 (.seq (.ops [zi 62 (.lea (.t 2) 16), zi 63 (.ld (.t 62) none), zc 64 (.f 158) [(.t 63), (.c (.int .i64 1)), (.c (.int .i64 40))], zv 4 64])
 .ret)
 (.seq (.ops [zi 66 (.bin .eql (.t 5) (.c (.int .i64 1024))), zv 65 66])
 (.cond (.t 65)
 (.seq (.draw 7 [zj 67 0 (.lea (.t 2) 12), zj 68 1 (.ld (.t 67) none), zj 69 2 (.lea (.t 2) 0), zj 70 3 (.ld (.t 69) none), zk 71 4 (.f 170) [(.t 70)], ⟨none, (.chk (.ld (.t 67) none) 68), none, none⟩, zk 72 5 (.f 158) [(.t 68), (.c (.int .i64 0)), (.t 71)], zj 4 6 (.val (.t 72))])
 .ret)
 (.seq (.ops [zi 74 (.bin .eql (.t 5) (.c (.int .i64 4096))), zv 73 74])
 (.cond (.t 73)
 (.seq (.ops [zi 75 (.lea (.t 2) 10), zi 76 (.ld (.t 75) none), zc 77 (.f 171) [(.t 76)], zv 4 77])
 .ret)
 (.seq (.ops [zi 79 (.bin .eql (.t 5) (.c (.int .i64 16384))), zv 78 79])
 (.cond (.t 78)
 (.seq (.ops [zi 80 (.lea (.t 2) 18), zi 81 (.ld (.t 80) none), zc 82 (.f 172) [(.t 81)], zv 4 82])
 .ret)
 .skip))))))))))))))))))))))))))
 (.seq (.ops [zi 4 (.val (.c (.bool true)))])
 .ret)))
theorem fm159 (prim : PrimF) (h : prim 159 = none) : FnM (tE prim) 159 m159 [(.t 4)] 2 :=
 ⟨h, _, _, rfl, rfl, by kernel_rfl, by kernel_rfl, by decide⟩

/-- mooring/wire.bare -/
noncomputable def m160 : MC :=
 (.seq (.ops [zi 2 (.box (.t 0)), zi 4 (.val (.c (.bool false)))])
 (.seq (.seq (.ops [zv 5 1])
 (.block 0 (.seq (.ops [zi 7 (.bin .eql (.t 5) (.c (.int .i64 1))), zv 6 7])
 (.cond (.t 6)
 (.seq (.ops [zi 8 (.lea (.t 2) 3), zi 9 (.ld (.t 8) none), zi 10 (.bin .eql (.t 9) (.c (.int .u64 0))), zv 4 10])
 .ret)
 (.seq (.ops [zi 12 (.bin .eql (.t 5) (.c (.int .i64 2))), zv 11 12])
 (.cond (.t 11)
 (.seq (.ops [zi 13 (.lea (.t 2) 4), zi 14 (.ld (.t 13) none), zi 15 (.bin .eql (.t 14) (.c (.int .u64 0))), zv 4 15])
 .ret)
 (.seq (.ops [zi 17 (.bin .eql (.t 5) (.c (.int .i64 4))), zv 16 17])
 (.cond (.t 16)
 (.seq (.ops [zi 18 (.lea (.t 2) 7), zi 19 (.ld (.t 18) none), zi 20 (.bin .eql (.t 19) (.c (.int .i64 0))), zv 4 20])
 .ret)
 (.seq (.ops [zi 22 (.bin .eql (.t 5) (.c (.int .i64 8))), zv 21 22])
 (.cond (.t 21)
 (.seq (.ops [zi 23 (.lea (.t 2) 5), zi 24 (.ld (.t 23) none), zi 25 (.bin .eql (.t 24) (.c (.int .i64 0))), zv 4 25])
 .ret)
 (.seq (.ops [zi 27 (.bin .eql (.t 5) (.c (.int .i64 16))), zv 26 27])
 (.cond (.t 26)
 (.seq (.ops [zi 28 (.lea (.t 2) 6), zi 29 (.ld (.t 28) none), zi 30 (.bin .eql (.t 29) (.c (.int .i64 0))), zv 4 30])
 .ret)
 (.seq (.ops [zi 32 (.bin .eql (.t 5) (.c (.int .i64 32))), zv 31 32])
 (.cond (.t 31)
 (.seq (.ops [zi 33 (.lea (.t 2) 8), zi 34 (.ld (.t 33) (some 2)), zi 35 (.bld [(.int .i64 0), (.int .u64 0)] []), zi 36 (.eqv 54 false (.t 34) (.t 35)), zv 4 36])
 .ret)
 (.seq (.ops [zi 38 (.bin .eql (.t 5) (.c (.int .i64 64))), zv 37 38])
 (.cond (.t 37)
 (.seq (.ops [zi 39 (.lea (.t 2) 13), zi 40 (.ld (.t 39) none), zi 41 (.bin .eql (.t 40) (.c (.int .u64 0))), zv 4 41])
 .ret)
 (.seq (.ops [zi 43 (.bin .eql (.t 5) (.c (.int .i64 128))), zv 42 43])
 (.cond (.t 42)
 (.seq (.ops [zi 44 (.lea (.t 2) 14), zi 45 (.ld (.t 44) none), zi 46 (.bin .eql (.t 45) (.c (.int .i64 0))), zv 4 46])
 .ret)
 (.seq (.ops [zi 48 (.bin .eql (.t 5) (.c (.int .i64 256))), zv 47 48])
 (.cond (.t 47)
 (.seq (.ops [zi 49 (.lea (.t 2) 15), zi 50 (.ld (.t 49) none), zi 51 (.bin .eql (.t 50) (.c (.int .u64 0))), zv 4 51])
 .ret)
 (.seq (.ops [zi 53 (.bin .eql (.t 5) (.c (.int .i64 512))), zv 52 53])
 (.cond (.t 52)
 (.seq (.ops [zi 54 (.lea (.t 2) 16), zi 55 (.ld (.t 54) none), zi 56 (.bin .eql (.t 55) (.c (.int .i64 0))), zv 4 56])
 .ret)
 (.seq (.ops [zi 58 (.bin .eql (.t 5) (.c (.int .i64 1024))), zv 57 58])
 (.cond (.t 57)
 (.seq (.ops [zi 59 (.lea (.t 2) 12), zi 60 (.ld (.t 59) none), zi 61 (.bin .eql (.t 60) (.c (.int .i64 0))), zv 4 61])
 .ret)
 (.seq (.ops [zi 63 (.bin .eql (.t 5) (.c (.int .i64 2048))), zv 62 63])
 (.cond (.t 62)
 (.seq (.ops [zi 64 (.lea (.t 2) 11), zi 65 (.ld (.t 64) none), zi 66 (.bin .eql (.t 65) (.c (.int .u64 0))), zv 4 66])
 .ret)
 (.seq (.ops [zi 68 (.bin .eql (.t 5) (.c (.int .i64 4096))), zv 67 68])
 (.cond (.t 67)
 (.seq (.ops [zi 69 (.lea (.t 2) 10), zi 70 (.ld (.t 69) none), zi 71 (.lenS (.t 70)), zi 72 (.bin .eql (.t 71) (.c (.int .i64 0))), zv 4 72])
 .ret)
 (.seq (.ops [zi 74 (.bin .eql (.t 5) (.c (.int .i64 8192))), zv 73 74])
 (.cond (.t 73)
 (.seq (.ops [zi 75 (.lea (.t 2) 17), zi 76 (.ld (.t 75) none), zi 77 (.bin .eql (.t 76) (.c (.int .u64 0))), zv 4 77])
 .ret)
 .skip))))))))))))))))))))))))))))))
 (.seq (.ops [zi 78 (.lea (.t 2) 18), zi 79 (.ld (.t 78) none), zi 80 (.lenS (.t 79)), zi 81 (.bin .eql (.t 80) (.c (.int .i64 0))), zv 4 81])
 .ret)))
theorem fm160 (prim : PrimF) (h : prim 160 = none) : FnM (tE prim) 160 m160 [(.t 4)] 2 :=
 ⟨h, _, _, rfl, rfl, by kernel_rfl, by kernel_rfl, by decide⟩

/-- (*mooring/table.Table[uint64, mooring/api.Call]).Next -/
noncomputable def m161 : MC :=
 (.seq (.ops [zi 4 (.val (.c (.int .u64 0))), zi 5 (.val (.c (.bool false)))])
 (.seq (.ops [zv 9 0, zi 10 (.nilck (.t 9)), zi 11 (.lea (.t 10) 0), zi 12 (.ld (.t 11) none), zv 13 1, zc 14 (.f 126) [(.t 12), (.t 13)], zv 8 14, zi 15 (.ext (.t 8) 0), zi 16 (.ext (.t 8) 1), zv 6 15, zv 7 16])
 (.seq (.seq (.ops [zv 17 7])
 (.cond (.t 17)
 (.ops [zv 18 6, zi 19 (.bin .add (.t 18) (.c (.int .i64 1))), zv 6 19])
 .skip))
 (.seq (.ops [zv 20 0, zv 21 6, zc 22 (.f 173) [(.t 20), (.t 21)], zi 23 (.ext (.t 22) 0), zi 24 (.ext (.t 22) 1), zv 4 23, zv 5 24])
 .ret))))
theorem fm161 (prim : PrimF) (h : prim 161 = none) : FnM (tE prim) 161 m161 [(.t 4), (.t 5)] 2 :=
 ⟨h, _, _, rfl, rfl, by kernel_rfl, by kernel_rfl, by decide⟩

/-- cmp.isNaN[uint64] -/
noncomputable def m163 : MC :=
 (.seq (.ops [zi 2 (.val (.c (.bool false)))])
 (.seq (.ops [zv 3 0, zv 4 0, zi 5 (.bin .neq (.t 3) (.t 4)), zv 2 5])
 .ret))
theorem fm163 (prim : PrimF) (h : prim 163 = none) : FnM (tE prim) 163 m163 [(.t 2)] 1 :=
 ⟨h, _, _, rfl, rfl, by kernel_rfl, by kernel_rfl, by decide⟩

/-- mooring/wire.serial -/
noncomputable def m166 : MC :=
 (.seq (.ops [zi 2 (.val (.c (.bool false)))])
 (.seq (.ops [zv 3 0, zi 4 (.bin .geq (.t 3) (.c (.int .u64 1))), zv 5 4, zg 6 5 true (.val (.t 0)), zg 7 5 true (.bin .leq (.t 6) (.c (.int .u64 72057594037927935))), zi 8 (.pick (.t 5) (.t 7) (.c (.bool false))), zv 2 8])
 .ret))
theorem fm166 (prim : PrimF) (h : prim 166 = none) : FnM (tE prim) 166 m166 [(.t 2)] 1 :=
 ⟨h, _, _, rfl, rfl, by kernel_rfl, by kernel_rfl, by decide⟩

/-- mooring/wire.ops -/
noncomputable def m167 : MC :=
 (.seq (.ops [zi 2 (.val (.c (.int .i64 0)))])
 (.seq (.seq (.ops [zv 3 0, zi 4 (.bin .eql (.t 3) (.c (.int .i64 8)))])
 (.cond (.t 4)
 (.seq (.ops [zi 2 (.val (.c (.int .i64 3)))])
 .ret)
 .skip))
 (.seq (.ops [zi 2 (.val (.c (.int .i64 6)))])
 .ret)))
theorem fm167 (prim : PrimF) (h : prim 167 = none) : FnM (tE prim) 167 m167 [(.t 2)] 1 :=
 ⟨h, _, _, rfl, rfl, by kernel_rfl, by kernel_rfl, by decide⟩

/-- mooring/wire.right -/
noncomputable def m168 : MC :=
 (.seq (.ops [zi 1 (.box (.t 0)), zi 2 (.val (.c (.bool false)))])
 (.seq (.ops [zi 3 (.ld (.t 1) (some 2)), zi 4 (.bld [(.int .i64 0), (.int .u64 0)] []), zi 5 (.eqv 54 false (.t 3) (.t 4)), zv 6 5, zg 7 6 false (.lea (.t 1) 0), zg 8 6 false (.ld (.t 7) none), ⟨(some 9), (.call (.f 158) [(.t 8), (.c (.int .i64 1)), (.c (.int .i64 64))]), (some (6, false)), none⟩, zg 10 6 false (.val (.t 9)), zg 11 10 true (.lea (.t 1) 1), zg 12 10 true (.ld (.t 11) none), ⟨(some 13), (.call (.f 166) [(.t 12)]), (some (10, true)), none⟩, zg 14 6 false (.pick (.t 10) (.t 13) (.c (.bool false))), zi 15 (.pick (.t 6) (.c (.bool true)) (.t 14)), zv 2 15])
 .ret))
theorem fm168 (prim : PrimF) (h : prim 168 = none) : FnM (tE prim) 168 m168 [(.t 2)] 1 :=
 ⟨h, _, _, rfl, rfl, by kernel_rfl, by kernel_rfl, by decide⟩

/-- mooring/wire.aims -/
noncomputable def m169 : MC :=
 (.seq (.ops [zi 1 (.box (.t 0)), zi 2 (.val (.c (.bool false)))])
 (.seq (.ops [zi 4 (.lea (.t 1) 8), zi 5 (.ld (.t 4) (some 2)), zi 6 (.bld [(.int .i64 0), (.int .u64 0)] []), zi 7 (.eqv 54 false (.t 5) (.t 6)), zv 3 7])
 (.seq (.seq (.ops [zi 8 (.lea (.t 1) 0), zi 9 (.ld (.t 8) none)])
 (.block 0 (.seq (.ops [zi 11 (.bin .eql (.t 9) (.c (.int .i64 1))), zv 10 11])
 (.cond (.t 10)
 (.seq (.ops [zv 12 3, zi 13 (.lea (.t 1) 5), zi 14 (.ld (.t 13) none), zi 15 (.bin .eql (.t 14) (.c (.int .i64 1))), zv 16 15, zg 17 16 false (.lea (.t 1) 5), zg 18 16 false (.ld (.t 17) none), zg 19 16 false (.bin .eql (.t 18) (.c (.int .i64 6))), zi 20 (.pick (.t 16) (.c (.bool true)) (.t 19)), zi 21 (.gen (.binOp .eql 4 (.tmp 12) (.tmp 20) 4)), zv 2 21])
 .ret)
 (.seq (.ops [zi 23 (.bin .eql (.t 9) (.c (.int .i64 8))), zv 22 23])
 (.cond (.t 22)
 (.seq (.ops [zv 24 3, zi 25 (.lea (.t 1) 5), zi 26 (.ld (.t 25) none), zi 27 (.bin .eql (.t 26) (.c (.int .i64 3))), zi 28 (.gen (.binOp .eql 4 (.tmp 24) (.tmp 27) 4)), zv 2 28])
 .ret)
 .skip))))))
 (.seq (.ops [zv 29 3, zi 30 (.not (.t 29)), zv 2 30])
 .ret))))
theorem fm169 (prim : PrimF) (h : prim 169 = none) : FnM (tE prim) 169 m169 [(.t 2)] 1 :=
 ⟨h, _, _, rfl, rfl, by kernel_rfl, by kernel_rfl, by decide⟩

/-- mooring/wire.codes -/
noncomputable def m170 : MC :=
 (.seq (.ops [zi 2 (.val (.c (.int .i64 0)))])
 (.seq (.seq (.ops [zv 3 0, zi 4 (.bin .eql (.t 3) (.c (.int .i64 9)))])
 (.cond (.t 4)
 (.seq (.ops [zi 2 (.val (.c (.int .i64 2)))])
 .ret)
 .skip))
 (.seq (.ops [zi 2 (.val (.c (.int .i64 10)))])
 .ret)))
theorem fm170 (prim : PrimF) (h : prim 170 = none) : FnM (tE prim) 170 m170 [(.t 2)] 1 :=
 ⟨h, _, _, rfl, rfl, by kernel_rfl, by kernel_rfl, by decide⟩

/-- mooring/wire.allRight -/
noncomputable def m171 : MC :=
 (.seq (.ops [zi 2 (.val (.c (.bool false)))])
 (.seq (.seq (.ops [zv 5 0, zi 6 (.lenS (.t 5)), zi 7 (.val (.c (.int .i64 0)))])
 (.block 0 (.loop (.seq (.ops [zi 8 (.bin .lss (.t 7) (.t 6))])
 (.seq (.cond (.t 8)
 .skip
 (.exit 0))
 (.seq (.block 1 (.seq (.ops [zi 9 (.idxA (.t 5) (.t 7) 2), zi 10 (.ld (.t 9) (some 2)), zi 4 (.alloc [(.int .i64 0), (.int .u64 0)]), zs (.st (.t 4) (.t 10) 2)])
 (.seq (.ops [zi 11 (.ld (.t 4) (some 2)), zc 12 (.f 168) [(.t 11)], zi 13 (.not (.t 12))])
 (.cond (.t 13)
 (.seq (.ops [zi 2 (.val (.c (.bool false)))])
 .ret)
 .skip))))
 (.ops [zi 14 (.bin .add (.t 7) (.c (.int .i64 1))), zv 7 14])))))))
 (.seq (.ops [zv 15 0, zi 16 (.lenS (.t 15)), zi 17 (.bin .leq (.t 16) (.c (.int .i64 2))), zv 2 17])
 .ret)))
theorem fm171 (prim : PrimF) (h : prim 171 = none) : FnM (tE prim) 171 m171 [(.t 2)] 1 :=
 ⟨h, _, _, rfl, rfl, by kernel_rfl, by kernel_rfl, by decide⟩

/-- mooring/wire.rising -/
noncomputable def m172 : MC :=
 (.seq (.ops [zi 2 (.val (.c (.bool false)))])
 (.seq (.seq (.ops [zv 5 0, zi 6 (.lenS (.t 5)), zi 7 (.val (.c (.int .i64 0)))])
 (.block 0 (.loop (.seq (.ops [zi 8 (.bin .lss (.t 7) (.t 6))])
 (.seq (.cond (.t 8)
 .skip
 (.exit 0))
 (.seq (.block 1 (.seq (.ops [zv 9 7, zi 10 (.idxA (.t 5) (.t 7) 1), zi 11 (.ld (.t 10) none), zv 3 9, zv 4 11])
 (.seq (.ops [zv 12 4, zc 13 (.f 166) [(.t 12)], zi 14 (.not (.t 13)), zv 15 14, zg 16 15 false (.val (.t 3)), zg 17 15 false (.bin .gtr (.t 16) (.c (.int .i64 0))), zg 18 15 false (.val (.t 17)), zg 19 18 true (.val (.t 4)), zg 20 18 true (.val (.t 0)), zg 21 18 true (.val (.t 3)), zg 22 18 true (.bin .sub (.t 21) (.c (.int .i64 1))), zg 23 18 true (.idxA (.t 20) (.t 22) 1), zg 24 18 true (.ld (.t 23) none), zg 25 18 true (.bin .leq (.t 19) (.t 24)), zg 26 15 false (.pick (.t 18) (.t 25) (.c (.bool false))), zi 27 (.pick (.t 15) (.c (.bool true)) (.t 26))])
 (.cond (.t 27)
 (.seq (.ops [zi 2 (.val (.c (.bool false)))])
 .ret)
 .skip))))
 (.ops [zi 28 (.bin .add (.t 7) (.c (.int .i64 1))), zv 7 28])))))))
 (.seq (.ops [zv 29 0, zi 30 (.lenS (.t 29)), zi 31 (.bin .leq (.t 30) (.c (.int .i64 64))), zv 2 31])
 .ret)))
theorem fm172 (prim : PrimF) (h : prim 172 = none) : FnM (tE prim) 172 m172 [(.t 2)] 1 :=
 ⟨h, _, _, rfl, rfl, by kernel_rfl, by kernel_rfl, by decide⟩

/-- (*mooring/table.Table[uint64, mooring/api.Call]).from -/
noncomputable def m173 : MC :=
 (.seq (.ops [zi 4 (.val (.c (.int .u64 0))), zi 5 (.val (.c (.bool false)))])
 (.seq (.seq (.ops [zv 7 1, zi 8 (.bin .lss (.t 7) (.c (.int .i64 0))), zv 9 8, zg 10 9 false (.val (.t 1)), zg 11 9 false (.val (.t 0)), zg 12 9 false (.nilck (.t 11)), zg 13 9 false (.lea (.t 12) 0), zg 14 9 false (.ld (.t 13) none), zg 15 9 false (.lenS (.t 14)), zg 16 9 false (.bin .geq (.t 10) (.t 15)), zi 17 (.pick (.t 9) (.c (.bool true)) (.t 16))])
 (.cond (.t 17)
 (.seq (.ops [zi 6 (.val (.c (.int .u64 0)))])
 (.seq (.ops [zv 18 6, zv 4 18, zi 5 (.val (.c (.bool false)))])
 .ret))
 .skip))
 (.seq (.ops [zv 19 0, zi 20 (.nilck (.t 19)), zi 21 (.lea (.t 20) 0), zi 22 (.ld (.t 21) none), zv 23 1, zi 24 (.idxA (.t 22) (.t 23) 1), zi 25 (.ld (.t 24) none), zv 4 25, zi 5 (.val (.c (.bool true)))])
 .ret)))
theorem fm173 (prim : PrimF) (h : prim 173 = none) : FnM (tE prim) 173 m173 [(.t 4), (.t 5)] 2 :=
 ⟨h, _, _, rfl, rfl, by kernel_rfl, by kernel_rfl, by decide⟩

end Go.Sh

namespace Go.Sh
open Go
open Go.Proofs
set_option maxRecDepth 100000

/-- mooring/node.Make -/
noncomputable def m5 : MC :=
 (.seq (.ops [zi 2 (.box (.t 0)), zi 4 (.val (.c (.pointer none))), zi 5 (.val (.c (.int .i64 0)))])
 (.seq (.seq (.ops [zi 8 (.ld (.t 2) (some 22)), zc 9 (.f 7) [(.t 8)], zi 10 (.not (.t 9)), zv 11 10, zg 12 11 false (.val (.t 1)), zg 13 11 false (.bin .lss (.t 12) (.c (.int .i64 1))), zi 14 (.pick (.t 11) (.c (.bool true)) (.t 13)), zv 15 14, zg 16 15 false (.val (.t 1)), zg 17 15 false (.lea (.t 2) 0), zg 18 15 false (.ld (.t 17) none), zg 19 15 false (.bin .gtr (.t 16) (.t 18)), zi 20 (.pick (.t 15) (.c (.bool true)) (.t 19))])
 (.cond (.t 20)
 (.seq (.ops [zi 4 (.val (.c (.pointer none))), zi 5 (.val (.c (.int .i64 1)))])
 .ret)
 .skip))
 (.seq (.ops [zi 21 (.ld (.t 2) (some 22)), zv 22 1, zi 23 (.bld [(.pointer none), (.pointer none), (.pointer none), (.int .i64 0), (.int .i64 0), (.int .i64 0), (.int .i64 0), (.int .i64 0), (.int .i64 0), (.int .i64 0), (.int .i64 0), (.int .i64 0), (.int .i64 0), (.int .i64 0), (.int .u64 0), (.int .u64 0), (.int .u64 0), (.int .u64 0), (.int .u64 0), (.int .u64 0), (.int .i64 0), (.int .i64 0), (.int .i64 0), (.int .u64 0), (.int .u64 0), (.int .i64 0), (.pointer none), (.pointer none), (.pointer none), (.pointer none), (.pointer none), (.pointer none), (.int .u64 0), (.int .i64 0), (.int .u64 0)] [(3, 22, (.t 21)), (25, 1, (.t 22))]), zi 24 (.box (.t 23)), zv 6 24])
 (.seq (.ops [zi 7 (.alloc [(.int .i64 0), (.int .i64 0), (.int .i64 0), (.int .i64 0), (.int .i64 0), (.int .i64 0), (.int .i64 0), (.int .i64 0), (.int .i64 0)])])
 (.seq (.ops [zv 26 6, zv 27 1, zi 28 (.lea (.t 2) 3), zi 29 (.ld (.t 28) none), zi 30 (.lea (.t 2) 4), zi 31 (.ld (.t 30) none), zi 32 (.lea (.t 2) 21), zi 33 (.ld (.t 32) none), zc 34 (.f 16) [(.t 27), (.t 29), (.t 31), (.t 33)], zv 25 34, zi 35 (.ext (.t 25) 0), zi 36 (.ext (.t 25) 1), zi 37 (.nilck (.t 26)), zi 38 (.lea (.t 37) 0), zs (.st (.t 38) (.t 35) 1), zi 39 (.gen (.indexAddr 78 (.tmp 7) (.const (.int .i64 0)))), zs (.st (.t 39) (.t 36) 1)])
 (.seq (.ops [zv 41 6, zi 42 (.lea (.t 2) 1), zi 43 (.ld (.t 42) none), zi 44 (.lea (.t 2) 2), zi 45 (.ld (.t 44) none), zc 46 (.f 17) [(.t 43), (.t 45)], zv 40 46, zi 47 (.ext (.t 40) 0), zi 48 (.ext (.t 40) 1), zi 49 (.nilck (.t 41)), zi 50 (.lea (.t 49) 1), zs (.st (.t 50) (.t 47) 1), zi 51 (.gen (.indexAddr 78 (.tmp 7) (.const (.int .i64 1)))), zs (.st (.t 51) (.t 48) 1)])
 (.seq (.ops [zv 53 6, zi 54 (.lea (.t 2) 20), zi 55 (.ld (.t 54) none), zc 56 (.f 18) [(.t 55)], zv 52 56, zi 57 (.ext (.t 52) 0), zi 58 (.ext (.t 52) 1), zi 59 (.nilck (.t 53)), zi 60 (.lea (.t 59) 2), zs (.st (.t 60) (.t 57) 1), zi 61 (.gen (.indexAddr 78 (.tmp 7) (.const (.int .i64 2)))), zs (.st (.t 61) (.t 58) 1)])
 (.seq (.draw 22 [zj 63 0 (.val (.t 6)), zj 64 1 (.val (.t 6)), zj 65 2 (.nilck (.t 64)), zj 66 3 (.lea (.t 65) 0), zj 67 4 (.ld (.t 66) none), zj 68 5 (.lea (.t 2) 1), zj 69 6 (.ld (.t 68) none), zj 70 7 (.lea (.t 2) 8), zj 71 8 (.ld (.t 70) none), zj 72 9 (.lea (.t 2) 17), zj 73 10 (.ld (.t 72) none), zj 74 11 (.lea (.t 2) 19), zj 75 12 (.ld (.t 74) none), zk 76 13 (.f 19) [(.t 67), (.t 69), (.t 71), (.t 73), (.t 75)], zj 62 14 (.val (.t 76)), zj 77 15 (.ext (.t 62) 0), zj 78 16 (.ext (.t 62) 1), zj 79 17 (.nilck (.t 63)), zj 80 18 (.lea (.t 79) 26), zq 19 (.st (.t 80) (.t 77) 1), zj 81 20 (.gen (.indexAddr 78 (.tmp 7) (.const (.int .i64 3)))), zq 21 (.st (.t 81) (.t 78) 1)])
 (.seq (.ops [zv 83 6, zi 84 (.ld (.t 2) (some 22)), zv 85 1, zi 86 (.lea (.t 2) 21), zi 87 (.ld (.t 86) none), zc 88 (.f 20) [(.t 84), (.t 85), (.t 87)], zv 82 88, zi 89 (.ext (.t 82) 0), zi 90 (.ext (.t 82) 1), zi 91 (.nilck (.t 83)), zi 92 (.lea (.t 91) 27), zs (.st (.t 92) (.t 89) 1), zi 93 (.gen (.indexAddr 78 (.tmp 7) (.const (.int .i64 4)))), zs (.st (.t 93) (.t 90) 1)])
 (.seq (.draw 15 [zj 95 0 (.val (.t 6)), zj 96 1 (.ld (.t 2) (some 22)), zj 97 2 (.val (.t 6)), zj 98 3 (.nilck (.t 97)), zj 99 4 (.lea (.t 98) 0), zj 100 5 (.ld (.t 99) none), zk 101 6 (.f 21) [(.t 96), (.t 100)], zj 94 7 (.val (.t 101)), zj 102 8 (.ext (.t 94) 0), zj 103 9 (.ext (.t 94) 1), zj 104 10 (.nilck (.t 95)), zj 105 11 (.lea (.t 104) 28), zq 12 (.st (.t 105) (.t 102) 1), zj 106 13 (.gen (.indexAddr 78 (.tmp 7) (.const (.int .i64 5)))), zq 14 (.st (.t 106) (.t 103) 1)])
 (.seq (.ops [zv 108 6, zi 109 (.ld (.t 2) (some 22)), zv 110 1, zi 111 (.lea (.t 2) 21), zi 112 (.ld (.t 111) none), zc 113 (.f 22) [(.t 109), (.t 110), (.t 112)], zv 107 113, zi 114 (.ext (.t 107) 0), zi 115 (.ext (.t 107) 1), zi 116 (.nilck (.t 108)), zi 117 (.lea (.t 116) 29), zs (.st (.t 117) (.t 114) 1), zi 118 (.gen (.indexAddr 78 (.tmp 7) (.const (.int .i64 6)))), zs (.st (.t 118) (.t 115) 1)])
 (.seq (.ops [zv 120 6, zi 121 (.ld (.t 2) (some 22)), zv 122 1, zc 123 (.f 23) [(.t 121), (.t 122)], zv 119 123, zi 124 (.ext (.t 119) 0), zi 125 (.ext (.t 119) 1), zi 126 (.nilck (.t 120)), zi 127 (.lea (.t 126) 30), zs (.st (.t 127) (.t 124) 1), zi 128 (.gen (.indexAddr 78 (.tmp 7) (.const (.int .i64 7)))), zs (.st (.t 128) (.t 125) 1)])
 (.seq (.ops [zv 130 6, zi 131 (.ld (.t 2) (some 22)), zv 132 1, zi 133 (.lea (.t 2) 21), zi 134 (.ld (.t 133) none), zc 135 (.f 24) [(.t 131), (.t 132), (.t 134)], zv 129 135, zi 136 (.ext (.t 129) 0), zi 137 (.ext (.t 129) 1), zi 138 (.nilck (.t 130)), zi 139 (.lea (.t 138) 31), zs (.st (.t 139) (.t 136) 1), zi 140 (.gen (.indexAddr 78 (.tmp 7) (.const (.int .i64 8)))), zs (.st (.t 140) (.t 137) 1)])
 (.seq (.seq (.ops [zi 141 (.ld (.t 7) (some 9)), zi 142 (.gen (.build 78 #[])), zi 143 (.eqv 78 true (.t 141) (.t 142))])
 (.cond (.t 143)
 (.seq (.ops [zi 4 (.val (.c (.pointer none))), zi 5 (.val (.c (.int .i64 1)))])
 .ret)
 .skip))
 (.seq (.ops [zv 144 6, zv 4 144, zi 5 (.val (.c (.int .i64 0)))])
 .ret)))))))))))))))
theorem fm5 (prim : PrimF) (h : prim 5 = none) : FnM (tE prim) 5 m5 [(.t 4), (.t 5)] 2 :=
 ⟨h, _, _, rfl, rfl, by kernel_rfl, by kernel_rfl, by decide⟩

/-- mooring/api.May -/
noncomputable def m7 : MC :=
 (.seq (.ops [zi 1 (.box (.t 0)), zi 2 (.val (.c (.bool false)))])
 (.seq (.ops [zi 7 (.lea (.t 1) 0), zi 8 (.ld (.t 7) none), zc 9 (.f 25) [(.t 8), (.c (.int .i64 64))], zv 10 9, zg 11 10 true (.lea (.t 1) 1), zg 12 10 true (.ld (.t 11) none), ⟨(some 13), (.call (.f 25) [(.t 12), (.c (.int .i64 4))]), (some (10, true)), none⟩, zi 14 (.pick (.t 10) (.t 13) (.c (.bool false))), zv 15 14, zg 16 15 true (.lea (.t 1) 2), zg 17 15 true (.ld (.t 16) none), ⟨(some 18), (.call (.f 25) [(.t 17), (.c (.int .i64 8))]), (some (15, true)), none⟩, zi 19 (.pick (.t 15) (.t 18) (.c (.bool false))), zv 20 19, zg 21 20 true (.lea (.t 1) 3), zg 22 20 true (.ld (.t 21) none), ⟨(some 23), (.call (.f 25) [(.t 22), (.c (.int .i64 4096))]), (some (20, true)), none⟩, zi 24 (.pick (.t 20) (.t 23) (.c (.bool false))), zv 25 24, zg 26 25 true (.lea (.t 1) 3), zg 27 25 true (.ld (.t 26) none), zg 28 25 true (.bin .rem (.t 27) (.c (.int .i64 16))), zg 29 25 true (.bin .eql (.t 28) (.c (.int .i64 0))), zi 30 (.pick (.t 25) (.t 29) (.c (.bool false))), zv 3 30])
 (.seq (.ops [zi 31 (.lea (.t 1) 4), zi 32 (.ld (.t 31) none), zc 33 (.f 25) [(.t 32), (.c (.int .i64 64))], zv 34 33, zg 35 34 true (.lea (.t 1) 5), zg 36 34 true (.ld (.t 35) none), ⟨(some 37), (.call (.f 25) [(.t 36), (.c (.int .i64 64))]), (some (34, true)), none⟩, zi 38 (.pick (.t 34) (.t 37) (.c (.bool false))), zv 39 38, zg 40 39 true (.lea (.t 1) 6), zg 41 39 true (.ld (.t 40) none), ⟨(some 42), (.call (.f 25) [(.t 41), (.c (.int .i64 16))]), (some (39, true)), none⟩, zi 43 (.pick (.t 39) (.t 42) (.c (.bool false))), zv 44 43, zg 45 44 true (.lea (.t 1) 7), zg 46 44 true (.ld (.t 45) none), ⟨(some 47), (.call (.f 25) [(.t 46), (.c (.int .i64 8))]), (some (44, true)), none⟩, zi 48 (.pick (.t 44) (.t 47) (.c (.bool false))), zv 49 48, zg 50 49 true (.lea (.t 1) 8), zg 51 49 true (.ld (.t 50) none), ⟨(some 52), (.call (.f 25) [(.t 51), (.c (.int .i64 64))]), (some (49, true)), none⟩, zi 53 (.pick (.t 49) (.t 52) (.c (.bool false))), zv 54 53, zg 55 54 true (.lea (.t 1) 9), zg 56 54 true (.ld (.t 55) none), ⟨(some 57), (.call (.f 25) [(.t 56), (.c (.int .i64 256))]), (some (54, true)), none⟩, zi 58 (.pick (.t 54) (.t 57) (.c (.bool false))), zv 59 58, zg 60 59 true (.lea (.t 1) 10), zg 61 59 true (.ld (.t 60) none), ⟨(some 62), (.call (.f 25) [(.t 61), (.c (.int .i64 16))]), (some (59, true)), none⟩, zi 63 (.pick (.t 59) (.t 62) (.c (.bool false))), zv 4 63])
 (.seq (.ops [zi 64 (.lea (.t 1) 11), zi 65 (.ld (.t 64) none), zi 66 (.bin .geq (.t 65) (.c (.int .u64 1))), zv 67 66, zg 68 67 true (.lea (.t 1) 11), zg 69 67 true (.ld (.t 68) none), zg 70 67 true (.bin .leq (.t 69) (.c (.int .u64 1048576))), zi 71 (.pick (.t 67) (.t 70) (.c (.bool false))), zv 72 71, zg 73 72 true (.lea (.t 1) 12), zg 74 72 true (.ld (.t 73) none), zg 75 72 true (.lea (.t 1) 11), zg 76 72 true (.ld (.t 75) none), zg 77 72 true (.bin .lss (.t 74) (.t 76)), zi 78 (.pick (.t 72) (.t 77) (.c (.bool false))), zv 79 78, zg 80 79 true (.lea (.t 1) 13), zg 81 79 true (.ld (.t 80) none), zg 82 79 true (.bin .leq (.t 81) (.c (.int .u64 4294967295))), zi 83 (.pick (.t 79) (.t 82) (.c (.bool false))), zv 84 83, zg 85 84 true (.lea (.t 1) 13), zg 86 84 true (.ld (.t 85) none), zg 87 84 true (.lea (.t 1) 11), zg 88 84 true (.ld (.t 87) none), zg 89 84 true (.lea (.t 1) 12), zg 90 84 true (.ld (.t 89) none), zg 91 84 true (.bin .sub (.t 88) (.t 90)), zg 92 84 true (.bin .mul (.t 86) (.t 91)), zg 93 84 true (.lea (.t 1) 11), zg 94 84 true (.ld (.t 93) none), zg 95 84 true (.lea (.t 1) 12), zg 96 84 true (.ld (.t 95) none), zg 97 84 true (.bin .add (.t 94) (.t 96)), zg 98 84 true (.bin .mul (.c (.int .u64 8)) (.t 97)), zg 99 84 true (.bin .geq (.t 92) (.t 98)), zi 100 (.pick (.t 84) (.t 99) (.c (.bool false))), zv 5 100])
 (.seq (.ops [zi 101 (.lea (.t 1) 14), zi 102 (.ld (.t 101) none), zi 103 (.bin .geq (.t 102) (.c (.int .u64 1))), zv 104 103, zg 105 104 true (.lea (.t 1) 14), zg 106 104 true (.ld (.t 105) none), zg 107 104 true (.lea (.t 1) 15), zg 108 104 true (.ld (.t 107) none), zg 109 104 true (.bin .leq (.t 106) (.t 108)), zi 110 (.pick (.t 104) (.t 109) (.c (.bool false))), zv 111 110, zg 112 111 true (.lea (.t 1) 15), zg 113 111 true (.ld (.t 112) none), zg 114 111 true (.bin .leq (.t 113) (.c (.int .u64 4294967295))), zi 115 (.pick (.t 111) (.t 114) (.c (.bool false))), zv 116 115, zg 117 116 true (.lea (.t 1) 16), zg 118 116 true (.ld (.t 117) none), zg 119 116 true (.bin .geq (.t 118) (.c (.int .u64 1))), zi 120 (.pick (.t 116) (.t 119) (.c (.bool false))), zv 121 120, zg 122 121 true (.lea (.t 1) 16), zg 123 121 true (.ld (.t 122) none), zg 124 121 true (.bin .leq (.t 123) (.c (.int .u64 4294967295))), zi 125 (.pick (.t 121) (.t 124) (.c (.bool false))), zv 6 125])
 (.seq (.ops [zv 126 3, zv 127 126, zg 128 127 true (.val (.t 4)), zi 129 (.pick (.t 127) (.t 128) (.c (.bool false))), zv 130 129, zg 131 130 true (.val (.t 5)), zi 132 (.pick (.t 130) (.t 131) (.c (.bool false))), zv 133 132, zg 134 133 true (.val (.t 6)), zi 135 (.pick (.t 133) (.t 134) (.c (.bool false))), zv 136 135, zg 137 136 true (.lea (.t 1) 17), zg 138 136 true (.ld (.t 137) none), ⟨(some 139), (.call (.f 25) [(.t 138), (.c (.int .i64 38))]), (some (136, true)), none⟩, zi 140 (.pick (.t 136) (.t 139) (.c (.bool false))), zv 141 140, zg 142 141 true (.lea (.t 1) 18), zg 143 141 true (.ld (.t 142) none), zg 144 141 true (.lea (.t 1) 17), zg 145 141 true (.ld (.t 144) none), zg 146 141 true (.bin .gtr (.t 143) (.t 145)), zi 147 (.pick (.t 141) (.t 146) (.c (.bool false))), zv 148 147, zg 149 148 true (.lea (.t 1) 18), zg 150 148 true (.ld (.t 149) none), zg 151 148 true (.bin .lss (.t 150) (.c (.int .i64 40))), zi 152 (.pick (.t 148) (.t 151) (.c (.bool false))), zv 153 152, zg 154 153 true (.lea (.t 1) 19), zg 155 153 true (.ld (.t 154) none), ⟨(some 156), (.call (.f 25) [(.t 155), (.c (.int .i64 64))]), (some (153, true)), none⟩, zi 157 (.pick (.t 153) (.t 156) (.c (.bool false))), zv 158 157, zg 159 158 true (.lea (.t 1) 20), zg 160 158 true (.ld (.t 159) none), zg 161 158 true (.bin .leq (.t 160) (.c (.int .u64 4611686018427387904))), zi 162 (.pick (.t 158) (.t 161) (.c (.bool false))), zv 163 162, zg 164 163 true (.lea (.t 1) 21), zg 165 163 true (.ld (.t 164) none), zg 166 163 true (.bin .leq (.t 165) (.c (.int .u64 72057594037927935))), zi 167 (.pick (.t 163) (.t 166) (.c (.bool false))), zv 2 167])
 .ret))))))
theorem fm7 (prim : PrimF) (h : prim 7 = none) : FnM (tE prim) 7 m7 [(.t 2)] 1 :=
 ⟨h, _, _, rfl, rfl, by kernel_rfl, by kernel_rfl, by decide⟩

/-- mooring/heap.New -/
noncomputable def m16 : MC :=
 (.seq (.ops [zi 8 (.val (.c (.pointer none))), zi 9 (.val (.c (.int .i64 0)))])
 (.seq (.seq (.ops [zv 12 0, zi 13 (.bin .lss (.t 12) (.c (.int .i64 1))), zv 14 13, zg 15 14 false (.val (.t 0)), zg 16 14 false (.bin .gtr (.t 15) (.c (.int .i64 64))), zi 17 (.pick (.t 14) (.c (.bool true)) (.t 16)), zv 18 17, zg 19 18 false (.val (.t 2)), zg 20 18 false (.bin .lss (.t 19) (.c (.int .i64 1))), zi 21 (.pick (.t 18) (.c (.bool true)) (.t 20)), zv 22 21, zg 23 22 false (.val (.t 2)), zg 24 22 false (.bin .gtr (.t 23) (.c (.int .i64 64))), zi 25 (.pick (.t 22) (.c (.bool true)) (.t 24)), zv 26 25, zg 27 26 false (.val (.t 3)), zg 28 26 false (.bin .gtr (.t 27) (.c (.int .u64 72057594037927935))), zi 29 (.pick (.t 26) (.c (.bool true)) (.t 28))])
 (.cond (.t 29)
 (.seq (.ops [zi 8 (.val (.c (.pointer none))), zi 9 (.val (.c (.int .i64 1)))])
 .ret)
 .skip))
 (.seq (.ops [zv 31 1, zc 32 (.f 69) [(.t 31)], zv 30 32, zi 33 (.ext (.t 30) 0), zi 34 (.ext (.t 30) 1), zv 10 33, zv 11 34])
 (.seq (.seq (.ops [zv 35 11, zi 36 (.bin .neq (.t 35) (.c (.int .i64 0)))])
 (.cond (.t 36)
 (.seq (.ops [zi 8 (.val (.c (.pointer none))), zi 9 (.val (.c (.int .i64 1)))])
 .ret)
 .skip))
 (.seq (.ops [zv 37 0, zv 38 2, zv 39 3, zv 40 10, zi 41 (.gen (.makeMap 192 none)), zi 42 (.bld [(.int .i64 0), (.int .i64 0), (.int .u64 0), (.pointer none), (.map none)] [(0, 1, (.t 37)), (1, 1, (.t 38)), (2, 1, (.t 39)), (3, 1, (.t 40)), (4, 1, (.t 41))]), zi 43 (.box (.t 42)), zv 8 43, zi 9 (.val (.c (.int .i64 0)))])
 .ret)))))
theorem fm16 (prim : PrimF) (h : prim 16 = none) : FnM (tE prim) 16 m16 [(.t 8), (.t 9)] 4 :=
 ⟨h, _, _, rfl, rfl, by kernel_rfl, by kernel_rfl, by decide⟩

/-- mooring/roots.New -/
noncomputable def m17 : MC :=
 (.seq (.ops [zi 4 (.val (.c (.pointer none))), zi 5 (.val (.c (.int .i64 0)))])
 (.seq (.seq (.ops [zv 8 0, zi 9 (.bin .lss (.t 8) (.c (.int .i64 1))), zv 10 9, zg 11 10 false (.val (.t 0)), zg 12 10 false (.bin .gtr (.t 11) (.c (.int .i64 4))), zi 13 (.pick (.t 10) (.c (.bool true)) (.t 12)), zv 14 13, zg 15 14 false (.val (.t 1)), zg 16 14 false (.bin .lss (.t 15) (.c (.int .i64 1))), zi 17 (.pick (.t 14) (.c (.bool true)) (.t 16)), zv 18 17, zg 19 18 false (.val (.t 1)), zg 20 18 false (.bin .gtr (.t 19) (.c (.int .i64 8))), zi 21 (.pick (.t 18) (.c (.bool true)) (.t 20))])
 (.cond (.t 21)
 (.seq (.ops [zi 4 (.val (.c (.pointer none))), zi 5 (.val (.c (.int .i64 1)))])
 .ret)
 .skip))
 (.seq (.ops [zv 22 0, zi 23 (.gen (.makeSlice 32 (.tmp 22) (.tmp 22))), zv 6 23])
 (.seq (.seq (.ops [zv 24 6, zi 25 (.lenS (.t 24)), zi 26 (.val (.c (.int .i64 0)))])
 (.block 0 (.loop (.seq (.ops [zi 27 (.bin .lss (.t 26) (.t 25))])
 (.seq (.cond (.t 27)
 .skip
 (.exit 0))
 (.seq (.block 1 (.seq (.ops [zv 28 26, zv 7 28])
 (.ops [zv 29 6, zv 30 7, zv 31 1, zi 32 (.gen (.makeSlice 55 (.tmp 31) (.tmp 31))), zi 33 (.idxA (.t 29) (.t 30) 1), zs (.st (.t 33) (.t 32) 1)])))
 (.ops [zi 34 (.bin .add (.t 26) (.c (.int .i64 1))), zv 26 34])))))))
 (.seq (.ops [zv 35 6, zi 36 (.bld [(.slice none 0 0)] [(0, 1, (.t 35))]), zi 37 (.box (.t 36)), zv 4 37, zi 5 (.val (.c (.int .i64 0)))])
 .ret)))))
theorem fm17 (prim : PrimF) (h : prim 17 = none) : FnM (tE prim) 17 m17 [(.t 4), (.t 5)] 2 :=
 ⟨h, _, _, rfl, rfl, by kernel_rfl, by kernel_rfl, by decide⟩

/-- mooring/clock.New -/
noncomputable def m18 : MC :=
 (.seq (.ops [zi 2 (.val (.c (.pointer none))), zi 3 (.val (.c (.int .i64 0)))])
 (.seq (.seq (.ops [zv 4 0, zi 5 (.bin .gtr (.t 4) (.c (.int .u64 4611686018427387904)))])
 (.cond (.t 5)
 (.seq (.ops [zi 2 (.val (.c (.pointer none))), zi 3 (.val (.c (.int .i64 1)))])
 .ret)
 .skip))
 (.seq (.ops [zv 6 0, zi 7 (.bld [(.int .u64 0)] [(0, 1, (.t 6))]), zi 8 (.box (.t 7)), zv 2 8, zi 3 (.val (.c (.int .i64 0)))])
 .ret)))
theorem fm18 (prim : PrimF) (h : prim 18 = none) : FnM (tE prim) 18 m18 [(.t 2), (.t 3)] 1 :=
 ⟨h, _, _, rfl, rfl, by kernel_rfl, by kernel_rfl, by decide⟩

/-- mooring/cycle.New -/
noncomputable def m19 : MC :=
 (.seq (.ops [zi 10 (.val (.c (.pointer none))), zi 11 (.val (.c (.int .i64 0)))])
 (.seq (.seq (.ops [zv 17 0, zi 18 (.eqv 66 false (.t 17) (.c (.pointer none))), zv 19 18, zg 20 19 false (.val (.t 3)), zg 21 19 false (.bin .lss (.t 20) (.c (.int .i64 0))), zi 22 (.pick (.t 19) (.c (.bool true)) (.t 21)), zv 23 22, zg 24 23 false (.val (.t 3)), zg 25 23 false (.bin .gtr (.t 24) (.c (.int .i64 40))), zi 26 (.pick (.t 23) (.c (.bool true)) (.t 25)), zv 27 26, zg 28 27 false (.val (.t 4)), zg 29 27 false (.bin .lss (.t 28) (.c (.int .i64 1))), zi 30 (.pick (.t 27) (.c (.bool true)) (.t 29)), zv 31 30, zg 32 31 false (.val (.t 4)), zg 33 31 false (.bin .gtr (.t 32) (.c (.int .i64 64))), zi 34 (.pick (.t 31) (.c (.bool true)) (.t 33))])
 (.cond (.t 34)
 (.seq (.ops [zi 10 (.val (.c (.pointer none))), zi 11 (.val (.c (.int .i64 1)))])
 .ret)
 .skip))
 (.seq (.ops [zv 36 1, zc 37 (.f 70) [(.t 36)], zv 35 37, zi 38 (.ext (.t 35) 0), zi 39 (.ext (.t 35) 1), zv 12 38, zv 13 39])
 (.seq (.ops [zv 41 0, zv 42 2, zc 43 (.f 71) [(.t 41), (.t 42)], zv 40 43, zi 44 (.ext (.t 40) 0), zi 45 (.ext (.t 40) 1), zv 14 44, zv 15 45])
 (.seq (.seq (.ops [zv 46 13, zi 47 (.bin .neq (.t 46) (.c (.int .i64 0))), zv 48 47, zg 49 48 false (.val (.t 15)), zg 50 48 false (.bin .neq (.t 49) (.c (.int .i64 0))), zi 51 (.pick (.t 48) (.c (.bool true)) (.t 50))])
 (.cond (.t 51)
 (.seq (.ops [zi 10 (.val (.c (.pointer none))), zi 11 (.val (.c (.int .i64 1)))])
 .ret)
 .skip))
 (.seq (.ops [zv 52 12, zv 53 0, zv 54 14, zv 55 0, zc 56 (.f 72) [(.t 55)], zv 57 3, zv 58 4, zi 59 (.bld [(.pointer none), (.pointer none), (.pointer none), (.pointer none), (.pointer none), (.pointer none), (.int .i64 0), (.int .i64 0), (.int .i64 0), (.int .i64 0), (.int .u64 0), (.int .u64 0), (.int .u64 0), (.slice none 0 0), (.slice none 0 0), (.bool false)] [(0, 1, (.t 52)), (1, 1, (.t 53)), (2, 1, (.t 54)), (6, 1, (.t 56)), (8, 1, (.t 57)), (9, 1, (.t 58))]), zi 60 (.box (.t 59)), zv 16 60])
 (.seq (.ops [zv 62 16, zv 63 0, zv 64 14, zc 65 (.f 73) [(.t 63), (.t 64)], zv 61 65, zi 66 (.ext (.t 61) 0), zi 67 (.ext (.t 61) 1), zi 68 (.nilck (.t 62)), zi 69 (.lea (.t 68) 3), zs (.st (.t 69) (.t 66) 1)])
 (.seq (.ops [zv 71 16, zv 72 0, zv 73 14, zc 74 (.f 74) [(.t 72), (.t 73)], zv 70 74, zi 75 (.ext (.t 70) 0), zi 76 (.ext (.t 70) 1), zi 77 (.nilck (.t 71)), zi 78 (.lea (.t 77) 4), zs (.st (.t 78) (.t 75) 1)])
 (.seq (.ops [zv 80 16, zv 81 0, zv 82 14, zc 83 (.f 75) [(.t 81), (.t 82)], zv 79 83, zi 84 (.ext (.t 79) 0), zi 85 (.ext (.t 79) 1), zi 86 (.nilck (.t 80)), zi 87 (.lea (.t 86) 5), zs (.st (.t 87) (.t 84) 1)])
 (.seq (.ops [zv 88 16, zv 10 88, zi 11 (.val (.c (.int .i64 0)))])
 .ret))))))))))
theorem fm19 (prim : PrimF) (h : prim 19 = none) : FnM (tE prim) 19 m19 [(.t 10), (.t 11)] 5 :=
 ⟨h, _, _, rfl, rfl, by kernel_rfl, by kernel_rfl, by decide⟩

/-- mooring/stub.New -/
noncomputable def m20 : MC :=
 (.seq (.ops [zi 3 (.box (.t 0)), zi 6 (.val (.c (.pointer none))), zi 7 (.val (.c (.int .i64 0)))])
 (.seq (.seq (.ops [zi 12 (.ld (.t 3) (some 22)), zc 13 (.f 7) [(.t 12)], zi 14 (.not (.t 13)), zv 15 14, zg 16 15 false (.val (.t 1)), zg 17 15 false (.bin .lss (.t 16) (.c (.int .i64 1))), zi 18 (.pick (.t 15) (.c (.bool true)) (.t 17)), zv 19 18, zg 20 19 false (.val (.t 1)), zg 21 19 false (.lea (.t 3) 0), zg 22 19 false (.ld (.t 21) none), zg 23 19 false (.bin .gtr (.t 20) (.t 22)), zi 24 (.pick (.t 19) (.c (.bool true)) (.t 23)), zv 25 24, zg 26 25 false (.val (.t 2)), zg 27 25 false (.bin .gtr (.t 26) (.c (.int .u64 72057594037927935))), zi 28 (.pick (.t 25) (.c (.bool true)) (.t 27))])
 (.cond (.t 28)
 (.seq (.ops [zi 6 (.val (.c (.pointer none))), zi 7 (.val (.c (.int .i64 1)))])
 .ret)
 .skip))
 (.seq (.ops [zi 30 (.lea (.t 3) 5), zi 31 (.ld (.t 30) none), zc 32 (.f 76) [(.t 31)], zv 29 32, zi 33 (.ext (.t 29) 0), zi 34 (.ext (.t 29) 1), zv 8 33, zv 9 34])
 (.seq (.ops [zi 36 (.lea (.t 3) 13), zi 37 (.ld (.t 36) none), zi 38 (.lea (.t 3) 11), zi 39 (.ld (.t 38) none), zi 40 (.lea (.t 3) 12), zi 41 (.ld (.t 40) none), zc 42 (.f 77) [(.t 37), (.t 39), (.t 41)], zv 35 42, zi 43 (.ext (.t 35) 0), zi 44 (.ext (.t 35) 1), zv 10 43, zv 11 44])
 (.seq (.seq (.ops [zv 45 9, zi 46 (.bin .neq (.t 45) (.c (.int .i64 0))), zv 47 46, zg 48 47 false (.val (.t 11)), zg 49 47 false (.bin .neq (.t 48) (.c (.int .i64 0))), zi 50 (.pick (.t 47) (.c (.bool true)) (.t 49))])
 (.cond (.t 50)
 (.seq (.ops [zi 6 (.val (.c (.pointer none))), zi 7 (.val (.c (.int .i64 1)))])
 .ret)
 .skip))
 (.seq (.ops [zv 51 8, zi 52 (.ld (.t 3) (some 22)), zv 53 1, zv 54 2, zv 55 10, zi 56 (.bld [(.pointer none), (.int .i64 0), (.int .i64 0), (.int .i64 0), (.int .i64 0), (.int .i64 0), (.int .i64 0), (.int .i64 0), (.int .i64 0), (.int .i64 0), (.int .i64 0), (.int .i64 0), (.int .u64 0), (.int .u64 0), (.int .u64 0), (.int .u64 0), (.int .u64 0), (.int .u64 0), (.int .i64 0), (.int .i64 0), (.int .i64 0), (.int .u64 0), (.int .u64 0), (.int .i64 0), (.int .u64 0), (.int .u64 0), (.int .u64 0)] [(0, 1, (.t 51)), (1, 22, (.t 52)), (23, 1, (.t 53)), (24, 1, (.t 54)), (25, 1, (.t 55))]), zi 57 (.box (.t 56)), zv 6 57, zi 7 (.val (.c (.int .i64 0)))])
 .ret))))))
theorem fm20 (prim : PrimF) (h : prim 20 = none) : FnM (tE prim) 20 m20 [(.t 6), (.t 7)] 3 :=
 ⟨h, _, _, rfl, rfl, by kernel_rfl, by kernel_rfl, by decide⟩

/-- mooring/scion.New -/
noncomputable def m21 : MC :=
 (.seq (.ops [zi 2 (.box (.t 0)), zi 4 (.val (.c (.pointer none))), zi 5 (.val (.c (.int .i64 0)))])
 (.seq (.seq (.draw 14 [zj 8 0 (.ld (.t 2) (some 22)), zk 9 1 (.f 7) [(.t 8)], zj 10 2 (.not (.t 9)), zj 11 3 (.val (.t 10)), ⟨(some 12), (.i (.val (.t 1))), (some (11, false)), (some 4)⟩, ⟨(some 13), (.i (.eqv 66 false (.t 12) (.c (.pointer none)))), (some (11, false)), (some 5)⟩, zj 14 6 (.pick (.t 11) (.c (.bool true)) (.t 13)), zj 15 7 (.val (.t 14)), ⟨(some 16), (.i (.val (.t 1))), (some (15, false)), (some 8)⟩, ⟨(some 18), (.i (.lea (.t 2) 0)), (some (15, false)), (some 10)⟩, ⟨(some 19), (.i (.ld (.t 18) none)), (some (15, false)), (some 11)⟩, ⟨(some 17), (.call (.f 72) [(.t 16)]), (some (15, false)), (some 9)⟩, ⟨none, (.chk (.ld (.t 18) none) 19), (some (15, false)), none⟩, ⟨(some 20), (.i (.bin .gtr (.t 17) (.t 19))), (some (15, false)), (some 12)⟩, zj 21 13 (.pick (.t 15) (.c (.bool true)) (.t 20))])
 (.cond (.t 21)
 (.seq (.ops [zi 4 (.val (.c (.pointer none))), zi 5 (.val (.c (.int .i64 1)))])
 .ret)
 .skip))
 (.seq (.ops [zc 23 (.f 78) [(.c (.int .i64 4096))], zv 22 23, zi 24 (.ext (.t 22) 0), zi 25 (.ext (.t 22) 1), zv 6 24, zv 7 25])
 (.seq (.seq (.ops [zv 26 7, zi 27 (.bin .neq (.t 26) (.c (.int .i64 0)))])
 (.cond (.t 27)
 (.seq (.ops [zi 4 (.val (.c (.pointer none))), zi 5 (.val (.c (.int .i64 1)))])
 .ret)
 .skip))
 (.seq (.ops [zi 28 (.ld (.t 2) (some 22)), zv 29 1, zv 30 6, zi 31 (.gen (.makeMap 231 none)), zi 32 (.bld [(.int .i64 0), (.int .i64 0), (.int .i64 0), (.int .i64 0), (.int .i64 0), (.int .i64 0), (.int .i64 0), (.int .i64 0), (.int .i64 0), (.int .i64 0), (.int .i64 0), (.int .u64 0), (.int .u64 0), (.int .u64 0), (.int .u64 0), (.int .u64 0), (.int .u64 0), (.int .i64 0), (.int .i64 0), (.int .i64 0), (.int .u64 0), (.int .u64 0), (.pointer none), (.pointer none), (.map none), (.int .u64 0)] [(0, 22, (.t 28)), (22, 1, (.t 29)), (23, 1, (.t 30)), (24, 1, (.t 31))]), zi 33 (.box (.t 32)), zv 4 33, zi 5 (.val (.c (.int .i64 0)))])
 .ret)))))
theorem fm21 (prim : PrimF) (h : prim 21 = none) : FnM (tE prim) 21 m21 [(.t 4), (.t 5)] 2 :=
 ⟨h, _, _, rfl, rfl, by kernel_rfl, by kernel_rfl, by decide⟩

/-- mooring/caller.New -/
noncomputable def m22 : MC :=
 (.seq (.ops [zi 3 (.box (.t 0)), zi 6 (.val (.c (.pointer none))), zi 7 (.val (.c (.int .i64 0)))])
 (.seq (.seq (.ops [zi 12 (.ld (.t 3) (some 22)), zc 13 (.f 7) [(.t 12)], zi 14 (.not (.t 13)), zv 15 14, zg 16 15 false (.val (.t 1)), zg 17 15 false (.bin .lss (.t 16) (.c (.int .i64 1))), zi 18 (.pick (.t 15) (.c (.bool true)) (.t 17)), zv 19 18, zg 20 19 false (.val (.t 1)), zg 21 19 false (.lea (.t 3) 0), zg 22 19 false (.ld (.t 21) none), zg 23 19 false (.bin .gtr (.t 20) (.t 22)), zi 24 (.pick (.t 19) (.c (.bool true)) (.t 23)), zv 25 24, zg 26 25 false (.val (.t 2)), zg 27 25 false (.bin .gtr (.t 26) (.c (.int .u64 72057594037927935))), zi 28 (.pick (.t 25) (.c (.bool true)) (.t 27))])
 (.cond (.t 28)
 (.seq (.ops [zi 6 (.val (.c (.pointer none))), zi 7 (.val (.c (.int .i64 1)))])
 .ret)
 .skip))
 (.seq (.ops [zi 30 (.lea (.t 3) 6), zi 31 (.ld (.t 30) none), zc 32 (.f 79) [(.t 31)], zv 29 32, zi 33 (.ext (.t 29) 0), zi 34 (.ext (.t 29) 1), zv 8 33, zv 9 34])
 (.seq (.seq (.ops [zv 35 9, zi 36 (.bin .neq (.t 35) (.c (.int .i64 0)))])
 (.cond (.t 36)
 (.seq (.ops [zi 6 (.val (.c (.pointer none))), zi 7 (.val (.c (.int .i64 1)))])
 .ret)
 .skip))
 (.seq (.draw 11 [zj 37 0 (.ld (.t 3) (some 22)), zj 38 1 (.val (.t 1)), zj 39 2 (.val (.t 2)), zj 40 3 (.lea (.t 3) 0), zj 41 4 (.ld (.t 40) none), zj 42 5 (.bin .add (.t 41) (.c (.int .i64 1))), zj 44 7 (.val (.t 8)), zj 43 6 (.gen (.makeSlice 36 (.tmp 42) (.tmp 42))), zj 45 8 (.bld [(.int .i64 0), (.int .i64 0), (.int .i64 0), (.int .i64 0), (.int .i64 0), (.int .i64 0), (.int .i64 0), (.int .i64 0), (.int .i64 0), (.int .i64 0), (.int .i64 0), (.int .u64 0), (.int .u64 0), (.int .u64 0), (.int .u64 0), (.int .u64 0), (.int .u64 0), (.int .i64 0), (.int .i64 0), (.int .i64 0), (.int .u64 0), (.int .u64 0), (.int .i64 0), (.int .u64 0), (.slice none 0 0), (.pointer none), (.int .u64 0)] [(0, 22, (.t 37)), (22, 1, (.t 38)), (23, 1, (.t 39)), (24, 1, (.t 43)), (25, 1, (.t 44))]), zj 46 9 (.box (.t 45)), zj 10 10 (.val (.t 46))])
 (.seq (.seq (.ops [zv 47 10, zi 48 (.nilck (.t 47)), zi 49 (.lea (.t 48) 24), zi 50 (.ld (.t 49) none), zi 51 (.lenS (.t 50)), zi 52 (.val (.c (.int .i64 0)))])
 (.block 0 (.loop (.seq (.ops [zi 53 (.bin .lss (.t 52) (.t 51))])
 (.seq (.cond (.t 53)
 .skip
 (.exit 0))
 (.seq (.block 1 (.seq (.ops [zv 54 52, zv 11 54])
 (.ops [zv 55 10, zi 56 (.nilck (.t 55)), zi 57 (.lea (.t 56) 24), zi 58 (.ld (.t 57) none), zv 59 11, zv 60 2, zi 61 (.idxA (.t 58) (.t 59) 1), zs (.st (.t 61) (.t 60) 1)])))
 (.ops [zi 62 (.bin .add (.t 52) (.c (.int .i64 1))), zv 52 62])))))))
 (.seq (.ops [zv 63 10, zv 6 63, zi 7 (.val (.c (.int .i64 0)))])
 .ret)))))))
theorem fm22 (prim : PrimF) (h : prim 22 = none) : FnM (tE prim) 22 m22 [(.t 6), (.t 7)] 3 :=
 ⟨h, _, _, rfl, rfl, by kernel_rfl, by kernel_rfl, by decide⟩

/-- mooring/server.Open -/
noncomputable def m23 : MC :=
 (.seq (.ops [zi 2 (.box (.t 0)), zi 4 (.val (.c (.pointer none))), zi 5 (.val (.c (.int .i64 0)))])
 (.seq (.seq (.ops [zi 10 (.ld (.t 2) (some 22)), zc 11 (.f 7) [(.t 10)], zi 12 (.not (.t 11)), zv 13 12, zg 14 13 false (.val (.t 1)), zg 15 13 false (.bin .lss (.t 14) (.c (.int .i64 1))), zi 16 (.pick (.t 13) (.c (.bool true)) (.t 15)), zv 17 16, zg 18 17 false (.val (.t 1)), zg 19 17 false (.lea (.t 2) 0), zg 20 17 false (.ld (.t 19) none), zg 21 17 false (.bin .gtr (.t 18) (.t 20)), zi 22 (.pick (.t 17) (.c (.bool true)) (.t 21))])
 (.cond (.t 22)
 (.seq (.ops [zi 4 (.val (.c (.pointer none))), zi 5 (.val (.c (.int .i64 1)))])
 .ret)
 .skip))
 (.seq (.ops [zc 24 (.f 80) [(.c (.int .i64 512))], zv 23 24, zi 25 (.ext (.t 23) 0), zi 26 (.ext (.t 23) 1), zv 6 25, zv 7 26])
 (.seq (.seq (.ops [zv 27 7, zi 28 (.bin .neq (.t 27) (.c (.int .i64 0)))])
 (.cond (.t 28)
 (.seq (.ops [zi 4 (.val (.c (.pointer none))), zi 5 (.val (.c (.int .i64 1)))])
 .ret)
 .skip))
 (.seq (.draw 10 [zj 29 0 (.ld (.t 2) (some 22)), zj 30 1 (.val (.t 1)), zj 31 2 (.lea (.t 2) 0), zj 32 3 (.ld (.t 31) none), zj 33 4 (.bin .add (.t 32) (.c (.int .i64 1))), zj 35 6 (.val (.t 6)), zj 34 5 (.gen (.makeSlice 36 (.tmp 33) (.tmp 33))), zj 36 7 (.bld [(.int .i64 0), (.int .i64 0), (.int .i64 0), (.int .i64 0), (.int .i64 0), (.int .i64 0), (.int .i64 0), (.int .i64 0), (.int .i64 0), (.int .i64 0), (.int .i64 0), (.int .u64 0), (.int .u64 0), (.int .u64 0), (.int .u64 0), (.int .u64 0), (.int .u64 0), (.int .i64 0), (.int .i64 0), (.int .i64 0), (.int .u64 0), (.int .u64 0), (.int .i64 0), (.slice none 0 0), (.pointer none), (.int .u64 0)] [(0, 22, (.t 29)), (22, 1, (.t 30)), (23, 1, (.t 34)), (24, 1, (.t 35))]), zj 37 8 (.box (.t 36)), zj 8 9 (.val (.t 37))])
 (.seq (.seq (.ops [zv 38 8, zi 39 (.nilck (.t 38)), zi 40 (.lea (.t 39) 23), zi 41 (.ld (.t 40) none), zi 42 (.lenS (.t 41)), zi 43 (.val (.c (.int .i64 0)))])
 (.block 0 (.loop (.seq (.ops [zi 44 (.bin .lss (.t 43) (.t 42))])
 (.seq (.cond (.t 44)
 .skip
 (.exit 0))
 (.seq (.block 1 (.seq (.ops [zv 45 43, zv 9 45])
 (.ops [zv 46 8, zi 47 (.nilck (.t 46)), zi 48 (.lea (.t 47) 23), zi 49 (.ld (.t 48) none), zv 50 9, zi 51 (.idxA (.t 49) (.t 50) 1), zs (.st (.t 51) (.c (.int .u64 1)) 1)])))
 (.ops [zi 52 (.bin .add (.t 43) (.c (.int .i64 1))), zv 43 52])))))))
 (.seq (.ops [zv 53 8, zv 4 53, zi 5 (.val (.c (.int .i64 0)))])
 .ret)))))))
theorem fm23 (prim : PrimF) (h : prim 23 = none) : FnM (tE prim) 23 m23 [(.t 4), (.t 5)] 2 :=
 ⟨h, _, _, rfl, rfl, by kernel_rfl, by kernel_rfl, by decide⟩

/-- mooring/trace.New -/
noncomputable def m24 : MC :=
 (.seq (.ops [zi 3 (.box (.t 0)), zi 6 (.val (.c (.pointer none))), zi 7 (.val (.c (.int .i64 0)))])
 (.seq (.seq (.ops [zi 8 (.ld (.t 3) (some 22)), zc 9 (.f 7) [(.t 8)], zi 10 (.not (.t 9)), zv 11 10, zg 12 11 false (.val (.t 1)), zg 13 11 false (.bin .lss (.t 12) (.c (.int .i64 1))), zi 14 (.pick (.t 11) (.c (.bool true)) (.t 13)), zv 15 14, zg 16 15 false (.val (.t 1)), zg 17 15 false (.lea (.t 3) 0), zg 18 15 false (.ld (.t 17) none), zg 19 15 false (.bin .gtr (.t 16) (.t 18)), zi 20 (.pick (.t 15) (.c (.bool true)) (.t 19)), zv 21 20, zg 22 21 false (.val (.t 2)), zg 23 21 false (.bin .gtr (.t 22) (.c (.int .u64 72057594037927935))), zi 24 (.pick (.t 21) (.c (.bool true)) (.t 23))])
 (.cond (.t 24)
 (.seq (.ops [zi 6 (.val (.c (.pointer none))), zi 7 (.val (.c (.int .i64 1)))])
 .ret)
 .skip))
 (.seq (.ops [zi 25 (.ld (.t 3) (some 22)), zv 26 1, zv 27 2, zi 28 (.bld [(.int .i64 0), (.int .i64 0), (.int .i64 0), (.int .i64 0), (.int .i64 0), (.int .i64 0), (.int .i64 0), (.int .i64 0), (.int .i64 0), (.int .i64 0), (.int .i64 0), (.int .u64 0), (.int .u64 0), (.int .u64 0), (.int .u64 0), (.int .u64 0), (.int .u64 0), (.int .i64 0), (.int .i64 0), (.int .i64 0), (.int .u64 0), (.int .u64 0), (.int .i64 0), (.int .u64 0), (.int .i64 0), (.int .i64 0), (.slice none 0 0), (.map none), (.int .i64 0), (.slice none 0 0), (.int .u64 0), (.int .u64 0)] [(0, 22, (.t 25)), (22, 1, (.t 26)), (23, 1, (.t 27))]), zi 29 (.box (.t 28)), zv 6 29, zi 7 (.val (.c (.int .i64 0)))])
 .ret)))
theorem fm24 (prim : PrimF) (h : prim 24 = none) : FnM (tE prim) 24 m24 [(.t 6), (.t 7)] 3 :=
 ⟨h, _, _, rfl, rfl, by kernel_rfl, by kernel_rfl, by decide⟩

/-- mooring/api.in -/
noncomputable def m25 : MC :=
 (.seq (.ops [zi 4 (.val (.c (.bool false)))])
 (.seq (.ops [zv 5 0, zi 6 (.bin .geq (.t 5) (.c (.int .i64 1))), zv 7 6, zg 8 7 true (.val (.t 0)), zg 9 7 true (.val (.t 1)), zg 10 7 true (.bin .leq (.t 8) (.t 9)), zi 11 (.pick (.t 7) (.t 10) (.c (.bool false))), zv 4 11])
 .ret))
theorem fm25 (prim : PrimF) (h : prim 25 = none) : FnM (tE prim) 25 m25 [(.t 4)] 2 :=
 ⟨h, _, _, rfl, rfl, by kernel_rfl, by kernel_rfl, by decide⟩

/-- mooring/arena.New -/
noncomputable def m69 : MC :=
 (.seq (.ops [zi 2 (.val (.c (.pointer none))), zi 3 (.val (.c (.int .i64 0)))])
 (.seq (.seq (.ops [zv 5 0, zi 6 (.bin .lss (.t 5) (.c (.int .i64 16))), zv 7 6, zg 8 7 false (.val (.t 0)), zg 9 7 false (.bin .gtr (.t 8) (.c (.int .i64 4096))), zi 10 (.pick (.t 7) (.c (.bool true)) (.t 9)), zv 11 10, zg 12 11 false (.val (.t 0)), zg 13 11 false (.bin .rem (.t 12) (.c (.int .i64 16))), zg 14 11 false (.bin .neq (.t 13) (.c (.int .i64 0))), zi 15 (.pick (.t 11) (.c (.bool true)) (.t 14))])
 (.cond (.t 15)
 (.seq (.ops [zi 2 (.val (.c (.pointer none))), zi 3 (.val (.c (.int .i64 1)))])
 .ret)
 .skip))
 (.seq (.ops [zv 16 0, zi 17 (.bin .quo (.t 16) (.c (.int .i64 16))), zv 4 17])
 (.seq (.draw 8 [zj 18 0 (.val (.t 4)), zj 20 2 (.val (.t 4)), zj 19 1 (.gen (.makeSlice 149 (.tmp 18) (.tmp 18))), zj 21 3 (.gen (.makeSlice 306 (.tmp 20) (.tmp 20))), zj 22 4 (.bld [(.slice none 0 0), (.slice none 0 0)] [(0, 1, (.t 19)), (1, 1, (.t 21))]), zj 23 5 (.box (.t 22)), zj 2 6 (.val (.t 23)), zj 3 7 (.val (.c (.int .i64 0)))])
 .ret))))
theorem fm69 (prim : PrimF) (h : prim 69 = none) : FnM (tE prim) 69 m69 [(.t 2), (.t 3)] 1 :=
 ⟨h, _, _, rfl, rfl, by kernel_rfl, by kernel_rfl, by decide⟩

/-- mooring/shake.New -/
noncomputable def m70 : MC :=
 (.seq (.ops [zi 2 (.val (.c (.pointer none))), zi 3 (.val (.c (.int .i64 0)))])
 (.seq (.seq (.ops [zv 4 0, zi 5 (.bin .lss (.t 4) (.c (.int .i64 1))), zv 6 5, zg 7 6 false (.val (.t 0)), zg 8 6 false (.bin .gtr (.t 7) (.c (.int .i64 4))), zi 9 (.pick (.t 6) (.c (.bool true)) (.t 8))])
 (.cond (.t 9)
 (.seq (.ops [zi 2 (.val (.c (.pointer none))), zi 3 (.val (.c (.int .i64 1)))])
 .ret)
 .skip))
 (.seq (.draw 10 [zj 10 0 (.val (.t 0)), zj 11 1 (.bin .add (.t 10) (.c (.int .i64 1))), zj 13 3 (.val (.t 0)), zj 14 4 (.bin .add (.t 13) (.c (.int .i64 1))), zj 12 2 (.gen (.makeSlice 283 (.tmp 11) (.tmp 11))), zj 15 5 (.gen (.makeSlice 283 (.tmp 14) (.tmp 14))), zj 16 6 (.bld [(.int .i64 0), (.slice none 0 0), (.slice none 0 0)] [(0, 1, (.c (.int .i64 0))), (1, 1, (.t 12)), (2, 1, (.t 15))]), zj 17 7 (.box (.t 16)), zj 2 8 (.val (.t 17)), zj 3 9 (.val (.c (.int .i64 0)))])
 .ret)))
theorem fm70 (prim : PrimF) (h : prim 70 = none) : FnM (tE prim) 70 m70 [(.t 2), (.t 3)] 1 :=
 ⟨h, _, _, rfl, rfl, by kernel_rfl, by kernel_rfl, by decide⟩

/-- mooring/paint.New -/
noncomputable def m71 : MC :=
 (.seq (.ops [zi 4 (.val (.c (.pointer none))), zi 5 (.val (.c (.int .i64 0)))])
 (.seq (.seq (.ops [zv 8 0, zi 9 (.eqv 66 false (.t 8) (.c (.pointer none)))])
 (.cond (.t 9)
 (.seq (.ops [zi 4 (.val (.c (.pointer none))), zi 5 (.val (.c (.int .i64 1)))])
 .ret)
 .skip))
 (.seq (.ops [zv 11 1, zc 12 (.f 124) [(.t 11)], zv 10 12, zi 13 (.ext (.t 10) 0), zi 14 (.ext (.t 10) 1), zv 6 13, zv 7 14])
 (.seq (.seq (.ops [zv 15 7, zi 16 (.bin .neq (.t 15) (.c (.int .i64 0)))])
 (.cond (.t 16)
 (.seq (.ops [zi 4 (.val (.c (.pointer none))), zi 5 (.val (.c (.int .i64 1)))])
 .ret)
 .skip))
 (.seq (.ops [zv 17 0, zi 18 (.gen (.makeMap 314 none)), zi 19 (.gen (.makeMap 315 none)), zv 20 6, zi 21 (.bld [(.pointer none), (.map none), (.map none), (.pointer none), (.int .u64 0)] [(0, 1, (.t 17)), (1, 1, (.t 18)), (2, 1, (.t 19)), (3, 1, (.t 20)), (4, 1, (.c (.int .u64 0)))]), zi 22 (.box (.t 21)), zv 4 22, zi 5 (.val (.c (.int .i64 0)))])
 .ret)))))
theorem fm71 (prim : PrimF) (h : prim 71 = none) : FnM (tE prim) 71 m71 [(.t 4), (.t 5)] 2 :=
 ⟨h, _, _, rfl, rfl, by kernel_rfl, by kernel_rfl, by decide⟩

/-- (*mooring/heap.Heap).Node -/
noncomputable def m72 : MC :=
 (.seq (.ops [zi 2 (.val (.c (.int .i64 0)))])
 (.seq (.ops [zv 3 0, zi 4 (.nilck (.t 3)), zi 5 (.lea (.t 4) 0), zi 6 (.ld (.t 5) none), zv 2 6])
 .ret))
theorem fm72 (prim : PrimF) (h : prim 72 = none) : FnM (tE prim) 72 m72 [(.t 2)] 1 :=
 ⟨h, _, _, rfl, rfl, by kernel_rfl, by kernel_rfl, by decide⟩

/-- mooring/mark.New -/
noncomputable def m73 : MC :=
 (.seq (.ops [zi 4 (.val (.c (.pointer none))), zi 5 (.val (.c (.int .i64 0)))])
 (.seq (.seq (.ops [zv 6 0, zi 7 (.eqv 66 false (.t 6) (.c (.pointer none))), zv 8 7, zg 9 8 false (.val (.t 1)), zg 10 8 false (.eqv 200 false (.t 9) (.c (.pointer none))), zi 11 (.pick (.t 8) (.c (.bool true)) (.t 10))])
 (.cond (.t 11)
 (.seq (.ops [zi 4 (.val (.c (.pointer none))), zi 5 (.val (.c (.int .i64 1)))])
 .ret)
 .skip))
 (.seq (.ops [zv 12 0, zv 13 1, zi 14 (.bld [(.pointer none), (.pointer none), (.int .u64 0), (.bool false), (.int .u64 0)] [(0, 1, (.t 12)), (1, 1, (.t 13))]), zi 15 (.box (.t 14)), zv 4 15, zi 5 (.val (.c (.int .i64 0)))])
 .ret)))
theorem fm73 (prim : PrimF) (h : prim 73 = none) : FnM (tE prim) 73 m73 [(.t 4), (.t 5)] 2 :=
 ⟨h, _, _, rfl, rfl, by kernel_rfl, by kernel_rfl, by decide⟩

/-- mooring/reach.New -/
noncomputable def m74 : MC :=
 (.seq (.ops [zi 4 (.val (.c (.pointer none))), zi 5 (.val (.c (.int .i64 0)))])
 (.seq (.seq (.ops [zv 6 0, zi 7 (.eqv 66 false (.t 6) (.c (.pointer none))), zv 8 7, zg 9 8 false (.val (.t 1)), zg 10 8 false (.eqv 200 false (.t 9) (.c (.pointer none))), zi 11 (.pick (.t 8) (.c (.bool true)) (.t 10))])
 (.cond (.t 11)
 (.seq (.ops [zi 4 (.val (.c (.pointer none))), zi 5 (.val (.c (.int .i64 1)))])
 .ret)
 .skip))
 (.seq (.ops [zv 12 0, zv 13 1, zi 14 (.bld [(.pointer none), (.pointer none), (.int .i64 0), (.int .u64 0), (.pointer none), (.slice none 0 0)] [(0, 1, (.t 12)), (1, 1, (.t 13))]), zi 15 (.box (.t 14)), zv 4 15, zi 5 (.val (.c (.int .i64 0)))])
 .ret)))
theorem fm74 (prim : PrimF) (h : prim 74 = none) : FnM (tE prim) 74 m74 [(.t 4), (.t 5)] 2 :=
 ⟨h, _, _, rfl, rfl, by kernel_rfl, by kernel_rfl, by decide⟩

/-- mooring/sweep.New -/
noncomputable def m75 : MC :=
 (.seq (.ops [zi 4 (.val (.c (.pointer none))), zi 5 (.val (.c (.int .i64 0)))])
 (.seq (.seq (.ops [zv 7 0, zi 8 (.eqv 66 false (.t 7) (.c (.pointer none))), zv 9 8, zg 10 9 false (.val (.t 1)), zg 11 9 false (.eqv 200 false (.t 10) (.c (.pointer none))), zi 12 (.pick (.t 9) (.c (.bool true)) (.t 11))])
 (.cond (.t 12)
 (.seq (.ops [zi 4 (.val (.c (.pointer none))), zi 5 (.val (.c (.int .i64 1)))])
 .ret)
 .skip))
 (.seq (.ops [zv 13 0, zv 14 1, zi 15 (.bld [(.pointer none), (.pointer none), (.int .u64 0), (.int .u64 0)] [(0, 1, (.t 13)), (1, 1, (.t 14))]), zi 16 (.box (.t 15)), zv 6 16])
 (.seq (.ops [zv 17 6, zc 18 (.f 125) [(.t 17)]])
 (.seq (.ops [zv 19 6, zv 4 19, zi 5 (.val (.c (.int .i64 0)))])
 .ret)))))
theorem fm75 (prim : PrimF) (h : prim 75 = none) : FnM (tE prim) 75 m75 [(.t 4), (.t 5)] 2 :=
 ⟨h, _, _, rfl, rfl, by kernel_rfl, by kernel_rfl, by decide⟩

/-- mooring/table.New[uint64,mooring/api.Stub] -/
noncomputable def m76 : MC :=
 (.seq (.ops [zi 2 (.val (.c (.pointer none))), zi 3 (.val (.c (.int .i64 0)))])
 (.seq (.seq (.ops [zv 4 0, zi 5 (.bin .lss (.t 4) (.c (.int .i64 1))), zv 6 5, zg 7 6 false (.val (.t 0)), zg 8 6 false (.bin .gtr (.t 7) (.c (.int .i64 4096))), zi 9 (.pick (.t 6) (.c (.bool true)) (.t 8))])
 (.cond (.t 9)
 (.seq (.ops [zi 2 (.val (.c (.pointer none))), zi 3 (.val (.c (.int .i64 1)))])
 .ret)
 .skip))
 (.seq (.ops [zv 10 0, zi 11 (.bld [(.slice none 0 0), (.slice none 0 0), (.int .i64 0)] [(2, 1, (.t 10))]), zi 12 (.box (.t 11)), zv 2 12, zi 3 (.val (.c (.int .i64 0)))])
 .ret)))
theorem fm76 (prim : PrimF) (h : prim 76 = none) : FnM (tE prim) 76 m76 [(.t 2), (.t 3)] 1 :=
 ⟨h, _, _, rfl, rfl, by kernel_rfl, by kernel_rfl, by decide⟩

/-- mooring/lease.Holder -/
noncomputable def m77 : MC :=
 (.seq (.ops [zi 6 (.val (.c (.int .u64 0))), zi 7 (.val (.c (.int .i64 0)))])
 (.seq (.seq (.ops [zv 8 1, zi 9 (.bin .lss (.t 8) (.c (.int .u64 1))), zv 10 9, zg 11 10 false (.val (.t 1)), zg 12 10 false (.bin .gtr (.t 11) (.c (.int .u64 1048576))), zi 13 (.pick (.t 10) (.c (.bool true)) (.t 12)), zv 14 13, zg 15 14 false (.val (.t 2)), zg 16 14 false (.val (.t 1)), zg 17 14 false (.bin .geq (.t 15) (.t 16)), zi 18 (.pick (.t 14) (.c (.bool true)) (.t 17)), zv 19 18, zg 20 19 false (.val (.t 0)), zg 21 19 false (.bin .gtr (.t 20) (.c (.int .u64 4294967295))), zi 22 (.pick (.t 19) (.c (.bool true)) (.t 21))])
 (.cond (.t 22)
 (.seq (.ops [zi 6 (.val (.c (.int .u64 0))), zi 7 (.val (.c (.int .i64 1)))])
 .ret)
 .skip))
 (.seq (.ops [zv 23 0, zv 24 1, zv 25 2, zi 26 (.bin .sub (.t 24) (.t 25)), zi 27 (.bin .mul (.t 23) (.t 26)), zv 28 1, zv 29 2, zi 30 (.bin .add (.t 28) (.t 29)), zi 31 (.bin .quo (.t 27) (.t 30)), zv 6 31, zi 7 (.val (.c (.int .i64 0)))])
 .ret)))
theorem fm77 (prim : PrimF) (h : prim 77 = none) : FnM (tE prim) 77 m77 [(.t 6), (.t 7)] 3 :=
 ⟨h, _, _, rfl, rfl, by kernel_rfl, by kernel_rfl, by decide⟩

/-- mooring/table.New[uint64,mooring/api.Scion] -/
noncomputable def m78 : MC :=
 (.seq (.ops [zi 2 (.val (.c (.pointer none))), zi 3 (.val (.c (.int .i64 0)))])
 (.seq (.seq (.ops [zv 4 0, zi 5 (.bin .lss (.t 4) (.c (.int .i64 1))), zv 6 5, zg 7 6 false (.val (.t 0)), zg 8 6 false (.bin .gtr (.t 7) (.c (.int .i64 4096))), zi 9 (.pick (.t 6) (.c (.bool true)) (.t 8))])
 (.cond (.t 9)
 (.seq (.ops [zi 2 (.val (.c (.pointer none))), zi 3 (.val (.c (.int .i64 1)))])
 .ret)
 .skip))
 (.seq (.ops [zv 10 0, zi 11 (.bld [(.slice none 0 0), (.slice none 0 0), (.int .i64 0)] [(2, 1, (.t 10))]), zi 12 (.box (.t 11)), zv 2 12, zi 3 (.val (.c (.int .i64 0)))])
 .ret)))
theorem fm78 (prim : PrimF) (h : prim 78 = none) : FnM (tE prim) 78 m78 [(.t 2), (.t 3)] 1 :=
 ⟨h, _, _, rfl, rfl, by kernel_rfl, by kernel_rfl, by decide⟩

/-- mooring/table.New[uint64,mooring/api.Call] -/
noncomputable def m79 : MC :=
 (.seq (.ops [zi 2 (.val (.c (.pointer none))), zi 3 (.val (.c (.int .i64 0)))])
 (.seq (.seq (.ops [zv 4 0, zi 5 (.bin .lss (.t 4) (.c (.int .i64 1))), zv 6 5, zg 7 6 false (.val (.t 0)), zg 8 6 false (.bin .gtr (.t 7) (.c (.int .i64 4096))), zi 9 (.pick (.t 6) (.c (.bool true)) (.t 8))])
 (.cond (.t 9)
 (.seq (.ops [zi 2 (.val (.c (.pointer none))), zi 3 (.val (.c (.int .i64 1)))])
 .ret)
 .skip))
 (.seq (.ops [zv 10 0, zi 11 (.bld [(.slice none 0 0), (.slice none 0 0), (.int .i64 0)] [(2, 1, (.t 10))]), zi 12 (.box (.t 11)), zv 2 12, zi 3 (.val (.c (.int .i64 0)))])
 .ret)))
theorem fm79 (prim : PrimF) (h : prim 79 = none) : FnM (tE prim) 79 m79 [(.t 2), (.t 3)] 1 :=
 ⟨h, _, _, rfl, rfl, by kernel_rfl, by kernel_rfl, by decide⟩

/-- mooring/table.New[uint64,mooring/api.Served] -/
noncomputable def m80 : MC :=
 (.seq (.ops [zi 2 (.val (.c (.pointer none))), zi 3 (.val (.c (.int .i64 0)))])
 (.seq (.seq (.ops [zv 4 0, zi 5 (.bin .lss (.t 4) (.c (.int .i64 1))), zv 6 5, zg 7 6 false (.val (.t 0)), zg 8 6 false (.bin .gtr (.t 7) (.c (.int .i64 4096))), zi 9 (.pick (.t 6) (.c (.bool true)) (.t 8))])
 (.cond (.t 9)
 (.seq (.ops [zi 2 (.val (.c (.pointer none))), zi 3 (.val (.c (.int .i64 1)))])
 .ret)
 .skip))
 (.seq (.ops [zv 10 0, zi 11 (.bld [(.slice none 0 0), (.slice none 0 0), (.int .i64 0)] [(2, 1, (.t 10))]), zi 12 (.box (.t 11)), zv 2 12, zi 3 (.val (.c (.int .i64 0)))])
 .ret)))
theorem fm80 (prim : PrimF) (h : prim 80 = none) : FnM (tE prim) 80 m80 [(.t 2), (.t 3)] 1 :=
 ⟨h, _, _, rfl, rfl, by kernel_rfl, by kernel_rfl, by decide⟩

/-- mooring/grey.New[uint64] -/
noncomputable def m124 : MC :=
 (.seq (.ops [zi 2 (.val (.c (.pointer none))), zi 3 (.val (.c (.int .i64 0)))])
 (.seq (.seq (.ops [zv 4 0, zi 5 (.bin .lss (.t 4) (.c (.int .i64 1))), zv 6 5, zg 7 6 false (.val (.t 0)), zg 8 6 false (.bin .gtr (.t 7) (.c (.int .i64 64))), zi 9 (.pick (.t 6) (.c (.bool true)) (.t 8))])
 (.cond (.t 9)
 (.seq (.ops [zi 2 (.val (.c (.pointer none))), zi 3 (.val (.c (.int .i64 1)))])
 .ret)
 .skip))
 (.seq (.ops [zv 10 0, zi 11 (.bld [(.slice none 0 0), (.int .i64 0), (.bool false)] [(1, 1, (.t 10))]), zi 12 (.box (.t 11)), zv 2 12, zi 3 (.val (.c (.int .i64 0)))])
 .ret)))
theorem fm124 (prim : PrimF) (h : prim 124 = none) : FnM (tE prim) 124 m124 [(.t 2), (.t 3)] 1 :=
 ⟨h, _, _, rfl, rfl, by kernel_rfl, by kernel_rfl, by decide⟩

/-- (*mooring/sweep.Sweeper).Begin -/
noncomputable def m125 : MC :=
 (.ops [zv 2 0, zv 3 0, zv 4 0, zi 5 (.nilck (.t 4)), zi 6 (.lea (.t 5) 0), zi 7 (.ld (.t 6) none), zc 8 (.f 148) [(.t 7)], zi 9 (.nilck (.t 2)), zi 10 (.lea (.t 9) 2), zs (.st (.t 10) (.c (.int .u64 0)) 1), zi 11 (.nilck (.t 3)), zi 12 (.lea (.t 11) 3), zs (.st (.t 12) (.t 8) 1)])
theorem fm125 (prim : PrimF) (h : prim 125 = none) : FnM (tE prim) 125 m125 [] 1 :=
 ⟨h, _, _, rfl, rfl, by kernel_rfl, by kernel_rfl, by decide⟩

/-- (*mooring/heap.Heap).Last -/
noncomputable def m148 : MC :=
 (.seq (.ops [zi 2 (.val (.c (.int .u64 0)))])
 (.seq (.ops [zv 3 0, zi 4 (.nilck (.t 3)), zi 5 (.lea (.t 4) 2), zi 6 (.ld (.t 5) none), zv 2 6])
 .ret))
theorem fm148 (prim : PrimF) (h : prim 148 = none) : FnM (tE prim) 148 m148 [(.t 2)] 1 :=
 ⟨h, _, _, rfl, rfl, by kernel_rfl, by kernel_rfl, by decide⟩

end Go.Sh
