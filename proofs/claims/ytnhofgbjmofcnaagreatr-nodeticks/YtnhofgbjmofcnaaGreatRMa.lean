/-
  The seat's functions in small steps. PRINTED BY PROGRAM (wip/tools/GenM.lean, sm.py).
-/
import Derived.Test.YtnhofgbjmofcnaaGreatRLi
import Derived.Test.YtnhofgbjmofcnaaGreatREb
import Derived.KernelRfl

namespace Go.Sh
open Go
open Go.Proofs
set_option maxRecDepth 100000

abbrev PrimF := Nat → Option (List Value → St → Option (Value × St))
noncomputable abbrev tE (prim : PrimF) : Env := seatEnv prim (fun _ _ _ => none) (fun _ => false)
abbrev zi (d : Nat) (x : MI) : MOp := ⟨some d, .i x, none, none⟩
abbrev zv (d t : Nat) : MOp := ⟨some d, .i (.val (.t t)), none, none⟩
abbrev zj (d n : Nat) (x : MI) : MOp := ⟨some d, .i x, none, some n⟩
abbrev zg (d g : Nat) (b : Bool) (x : MI) : MOp := ⟨some d, .i x, some (g, b), none⟩
abbrev zs (x : MI) : MOp := ⟨none, .i x, none, none⟩
abbrev zq (n : Nat) (x : MI) : MOp := ⟨none, .i x, none, some n⟩
abbrev zc (d : Nat) (f : MV) (l : List MV) : MOp := ⟨some d, .call f l, none, none⟩
abbrev zk (d n : Nat) (f : MV) (l : List MV) : MOp := ⟨some d, .call f l, none, some n⟩

/-- mooring/mooringlaw24.NodeTicks -/
noncomputable def m4 : MC :=
 (.seq (.ops [zi 4 (.box (.t 0)), zi 8 (.val (.c (.bool false)))])
 (.seq (.ops [zi 18 (.ld (.t 4) (some 22)), zc 19 (.f 12) [(.t 18)], zi 9 (.alloc [(.int .i64 0), (.int .i64 0), (.int .i64 0), (.int .i64 0), (.int .i64 0), (.int .i64 0), (.int .i64 0), (.int .i64 0), (.int .i64 0), (.int .i64 0), (.int .i64 0), (.int .u64 0), (.int .u64 0), (.int .u64 0), (.int .u64 0), (.int .u64 0), (.int .u64 0), (.int .i64 0), (.int .i64 0), (.int .i64 0), (.int .u64 0), (.int .u64 0)]), zs (.st (.t 9) (.t 19) 22)])
 (.seq (.ops [zv 20 3, zi 21 (.conv .u64 (.t 20)), zi 22 (.bin .sub (.c (.int .u64 4611686018427387904)) (.t 21)), zi 23 (.bin .sub (.t 22) (.c (.int .u64 1))), zi 24 (.lea (.t 9) 20), zs (.st (.t 24) (.t 23) 1)])
 (.seq (.ops [zi 26 (.ld (.t 9) (some 22)), zc 27 (.f 5) [(.t 26), (.c (.int .i64 1))], zv 25 27, zi 28 (.ext (.t 25) 0), zi 29 (.ext (.t 25) 1), zv 10 28, zv 11 29])
 (.seq (.seq (.ops [zc 30 (.f 6) [], zi 31 (.not (.t 30)), zv 32 31, zg 33 32 false (.val (.t 11)), zg 34 32 false (.bin .neq (.t 33) (.c (.int .i64 0))), zi 35 (.pick (.t 32) (.c (.bool true)) (.t 34)), zv 36 35, zg 37 36 false (.val (.t 10)), zg 38 36 false (.eqv 25 false (.t 37) (.c (.pointer none))), zi 39 (.pick (.t 36) (.c (.bool true)) (.t 38))])
 (.cond (.t 39)
 (.seq (.ops [zi 8 (.val (.c (.bool false)))])
 .ret)
 .skip))
 (.seq (.seq (.ops [zi 12 (.val (.c (.int .i64 0)))])
 (.block 0 (.loop (.seq (.seq (.ops [zv 40 12, zv 41 1, zi 42 (.lenS (.t 41)), zi 43 (.bin .lss (.t 40) (.t 42)), zv 44 43, zg 45 44 true (.val (.t 12)), zg 46 44 true (.bin .lss (.t 45) (.c (.int .i64 20))), zi 47 (.pick (.t 44) (.t 46) (.c (.bool false)))])
 (.cond (.t 47)
 .skip
 (.exit 0)))
 (.seq (.block 1 (.seq (.draw 9 [zj 50 0 (.val (.t 1)), zj 51 1 (.val (.t 12)), zj 52 2 (.idxA (.t 50) (.t 51) 31), zj 53 3 (.lea (.t 52) 2), zj 54 4 (.ld (.t 53) (some 9)), zj 55 5 (.ld (.t 9) (some 22)), zk 56 6 (.f 13) [(.t 54), (.t 55)], zj 13 7 (.alloc [(.int .i64 0), (.int .i64 0), (.int .i64 0), (.int .i64 0), (.int .i64 0), (.int .i64 0), (.int .i64 0), (.int .u64 0), (.int .u64 0)]), zq 8 (.st (.t 13) (.t 56) 9)])
 (.ops [zv 57 10, zi 58 (.ld (.t 13) (some 9)), zc 59 (.f 14) [(.t 57), (.c (.int .i64 0)), (.t 58)]])))
 (.ops [zv 48 12, zi 49 (.bin .add (.t 48) (.c (.int .i64 1))), zv 12 49]))))))
 (.seq (.ops [zv 60 10, zc 61 (.f 9) [(.t 60)], zi 14 (.alloc [(.int .u64 0), (.int .u64 0), (.int .i64 0), (.int .i64 0), (.slice none 0 0), (.slice none 0 0), (.slice none 0 0), (.slice none 0 0), (.slice none 0 0), (.slice none 0 0), (.slice none 0 0), (.int .u64 0), (.int .i64 0)]), zs (.st (.t 14) (.t 61) 13)])
 (.seq (.seq (.ops [zi 15 (.val (.c (.int .i64 0)))])
 (.block 2 (.loop (.seq (.seq (.ops [zv 62 15, zv 63 2, zi 64 (.lenS (.t 63)), zi 65 (.bin .lss (.t 62) (.t 64)), zv 66 65, zg 67 66 true (.val (.t 15)), zg 68 66 true (.bin .lss (.t 67) (.c (.int .i64 30))), zi 69 (.pick (.t 66) (.t 68) (.c (.bool false)))])
 (.cond (.t 69)
 .skip
 (.exit 2)))
 (.seq (.block 3 (.seq (.draw 10 [zj 72 0 (.val (.t 10)), zj 73 1 (.nilck (.t 72)), zj 74 2 (.lea (.t 73) 2), zj 75 3 (.ld (.t 74) none), zj 76 4 (.val (.t 2)), zj 77 5 (.val (.t 15)), zj 78 6 (.idxA (.t 76) (.t 77) 1), zj 79 7 (.ld (.t 78) none), zk 80 8 (.f 15) [(.t 75), (.t 79)], zj 16 9 (.val (.t 80))])
 (.seq (.ops [zi 17 (.val (.c (.int .i64 0)))])
 (.seq (.block 4 (.seq (.ops [zv 90 2, zv 91 15, zi 92 (.idxA (.t 90) (.t 91) 1), zi 93 (.ld (.t 92) none), zi 94 (.bin .gtr (.t 93) (.c (.int .u64 4294967295))), zv 89 94])
 (.cond (.t 89)
 (.ops [zi 17 (.val (.c (.int .i64 1)))])
 (.seq (.draw 9 [zj 96 0 (.val (.t 2)), zj 97 1 (.val (.t 15)), zj 98 2 (.idxA (.t 96) (.t 97) 1), zj 99 3 (.ld (.t 98) none), zj 100 4 (.lea (.t 14) 0), zj 101 5 (.ld (.t 100) none), zj 102 6 (.bin .sub (.c (.int .u64 4611686018427387904)) (.t 101)), zj 103 7 (.bin .gtr (.t 99) (.t 102)), zj 95 8 (.val (.t 103))])
 (.cond (.t 95)
 (.ops [zi 17 (.val (.c (.int .i64 7)))])
 (.draw 9 [zj 81 0 (.lea (.t 14) 0), zj 82 1 (.ld (.t 81) none), zj 83 2 (.val (.t 2)), zj 84 3 (.val (.t 15)), zj 85 4 (.idxA (.t 83) (.t 84) 1), zj 86 5 (.ld (.t 85) none), zj 87 6 (.bin .add (.t 82) (.t 86)), zj 88 7 (.lea (.t 14) 0), zq 8 (.st (.t 88) (.t 87) 1)]))))))
 (.seq (.draw 11 [zj 104 0 (.val (.t 16)), zj 105 1 (.val (.t 17)), zj 106 2 (.bin .neq (.t 104) (.t 105)), zj 107 3 (.val (.t 106)), ⟨(some 108), (.i (.val (.t 10))), (some (107, false)), (some 4)⟩, ⟨(some 111), (.i (.lea (.t 14) 0)), (some (107, false)), (some 7)⟩, ⟨(some 112), (.i (.ld (.t 111) none)), (some (107, false)), (some 8)⟩, ⟨(some 109), (.call (.f 9) [(.t 108)]), (some (107, false)), (some 5)⟩, ⟨none, (.chk (.ld (.t 111) none) 112), (some (107, false)), none⟩, ⟨(some 110), (.i (.fld (.t 109) 0 none)), (some (107, false)), (some 6)⟩, ⟨(some 113), (.i (.bin .neq (.t 110) (.t 112))), (some (107, false)), (some 9)⟩, zj 114 10 (.pick (.t 107) (.c (.bool true)) (.t 113))])
 (.cond (.t 114)
 (.seq (.ops [zi 8 (.val (.c (.bool false)))])
 .ret)
 .skip))))))
 (.ops [zv 70 15, zi 71 (.bin .add (.t 70) (.c (.int .i64 1))), zv 15 71]))))))
 (.seq (.draw 5 [zj 115 0 (.val (.t 10)), zj 117 2 (.ld (.t 14) (some 13)), zk 116 1 (.f 9) [(.t 115)], ⟨none, (.chk (.ld (.t 14) (some 13)) 117), none, none⟩, zk 118 3 (.f 8) [(.t 116), (.t 117)], zj 8 4 (.val (.t 118))])
 .ret)))))))))
theorem fm4 (prim : PrimF) (h : prim 4 = none) : FnM (tE prim) 4 m4 [(.t 8)] 4 :=
 ⟨h, _, _, rfl, rfl, by kernel_rfl, by kernel_rfl, by decide⟩

/-- mooring/mooringhand.View -/
noncomputable def m8 : MC :=
 (.seq (.ops [zi 2 (.box (.t 0)), zi 3 (.box (.t 1)), zi 4 (.val (.c (.bool false)))])
 (.seq (.seq (.ops [zi 6 (.lea (.t 2) 0), zi 7 (.ld (.t 6) none), zi 8 (.lea (.t 3) 0), zi 9 (.ld (.t 8) none), zi 10 (.bin .neq (.t 7) (.t 9)), zv 11 10, zg 12 11 false (.lea (.t 2) 1), zg 13 11 false (.ld (.t 12) none), zg 14 11 false (.lea (.t 3) 1), zg 15 11 false (.ld (.t 14) none), zg 16 11 false (.bin .neq (.t 13) (.t 15)), zi 17 (.pick (.t 11) (.c (.bool true)) (.t 16)), zv 18 17, zg 19 18 false (.lea (.t 2) 2), zg 20 18 false (.ld (.t 19) none), zg 21 18 false (.lea (.t 3) 2), zg 22 18 false (.ld (.t 21) none), zg 23 18 false (.bin .neq (.t 20) (.t 22)), zi 24 (.pick (.t 18) (.c (.bool true)) (.t 23)), zv 25 24, zg 26 25 false (.lea (.t 2) 3), zg 27 25 false (.ld (.t 26) none), zg 28 25 false (.lea (.t 3) 3), zg 29 25 false (.ld (.t 28) none), zg 30 25 false (.bin .neq (.t 27) (.t 29)), zi 31 (.pick (.t 25) (.c (.bool true)) (.t 30)), zv 32 31, zg 33 32 false (.lea (.t 2) 11), zg 34 32 false (.ld (.t 33) none), zg 35 32 false (.lea (.t 3) 11), zg 36 32 false (.ld (.t 35) none), zg 37 32 false (.bin .neq (.t 34) (.t 36)), zi 38 (.pick (.t 32) (.c (.bool true)) (.t 37)), zv 39 38, zg 40 39 false (.lea (.t 2) 12), zg 41 39 false (.ld (.t 40) none), zg 42 39 false (.lea (.t 3) 12), zg 43 39 false (.ld (.t 42) none), zg 44 39 false (.bin .neq (.t 41) (.t 43)), zi 45 (.pick (.t 39) (.c (.bool true)) (.t 44)), zv 46 45, zg 47 46 false (.lea (.t 2) 4), zg 48 46 false (.ld (.t 47) none), zg 49 46 false (.lenS (.t 48)), zg 50 46 false (.lea (.t 3) 4), zg 51 46 false (.ld (.t 50) none), zg 52 46 false (.lenS (.t 51)), zg 53 46 false (.bin .neq (.t 49) (.t 52)), zi 54 (.pick (.t 46) (.c (.bool true)) (.t 53))])
 (.cond (.t 54)
 (.seq (.ops [zi 4 (.val (.c (.bool false)))])
 .ret)
 .skip))
 (.seq (.seq (.ops [zi 5 (.val (.c (.int .i64 0)))])
 (.block 0 (.loop (.seq (.seq (.ops [zv 55 5, zi 56 (.lea (.t 2) 4), zi 57 (.ld (.t 56) none), zi 58 (.lenS (.t 57)), zi 59 (.bin .lss (.t 55) (.t 58))])
 (.cond (.t 59)
 .skip
 (.exit 0)))
 (.seq (.block 1 (.seq (.draw 12 [zj 62 0 (.lea (.t 2) 4), zj 63 1 (.ld (.t 62) none), zj 64 2 (.val (.t 5)), zj 65 3 (.idxA (.t 63) (.t 64) 1), zj 66 4 (.ld (.t 65) none), zj 67 5 (.lea (.t 3) 4), zj 68 6 (.ld (.t 67) none), zj 69 7 (.val (.t 5)), zj 70 8 (.idxA (.t 68) (.t 69) 1), zj 71 9 (.ld (.t 70) none), zk 72 10 (.f 26) [(.t 66), (.t 71)], zj 73 11 (.not (.t 72))])
 (.cond (.t 73)
 (.seq (.ops [zi 4 (.val (.c (.bool false)))])
 .ret)
 .skip)))
 (.ops [zv 60 5, zi 61 (.bin .add (.t 60) (.c (.int .i64 1))), zv 5 61]))))))
 (.seq (.ops [zi 74 (.lea (.t 2) 5), zi 75 (.ld (.t 74) none), zi 76 (.lea (.t 3) 5), zi 77 (.ld (.t 76) none), zc 78 (.f 27) [(.t 75), (.t 77)], zv 79 78, zg 80 79 true (.lea (.t 2) 6), zg 81 79 true (.ld (.t 80) none), zg 82 79 true (.lea (.t 3) 6), zg 83 79 true (.ld (.t 82) none), ⟨(some 84), (.call (.f 28) [(.t 81), (.t 83)]), (some (79, true)), none⟩, zi 85 (.pick (.t 79) (.t 84) (.c (.bool false))), zv 86 85, zg 87 86 true (.lea (.t 2) 7), zg 88 86 true (.ld (.t 87) none), zg 89 86 true (.lea (.t 3) 7), zg 90 86 true (.ld (.t 89) none), ⟨(some 91), (.call (.f 29) [(.t 88), (.t 90)]), (some (86, true)), none⟩, zi 92 (.pick (.t 86) (.t 91) (.c (.bool false))), zv 93 92, zg 94 93 true (.lea (.t 2) 8), zg 95 93 true (.ld (.t 94) none), zg 96 93 true (.lea (.t 3) 8), zg 97 93 true (.ld (.t 96) none), ⟨(some 98), (.call (.f 30) [(.t 95), (.t 97)]), (some (93, true)), none⟩, zi 99 (.pick (.t 93) (.t 98) (.c (.bool false))), zv 100 99, zg 101 100 true (.lea (.t 2) 9), zg 102 100 true (.ld (.t 101) none), zg 103 100 true (.lea (.t 3) 9), zg 104 100 true (.ld (.t 103) none), ⟨(some 105), (.call (.f 31) [(.t 102), (.t 104)]), (some (100, true)), none⟩, zi 106 (.pick (.t 100) (.t 105) (.c (.bool false))), zv 107 106, zg 108 107 true (.lea (.t 2) 10), zg 109 107 true (.ld (.t 108) none), zg 110 107 true (.lea (.t 3) 10), zg 111 107 true (.ld (.t 110) none), ⟨(some 112), (.call (.f 32) [(.t 109), (.t 111)]), (some (107, true)), none⟩, zi 113 (.pick (.t 107) (.t 112) (.c (.bool false))), zv 4 113])
 .ret))))
theorem fm8 (prim : PrimF) (h : prim 8 = none) : FnM (tE prim) 8 m8 [(.t 4)] 2 :=
 ⟨h, _, _, rfl, rfl, by kernel_rfl, by kernel_rfl, by decide⟩

/-- (*mooring/node.Node).View -/
noncomputable def m9 : MC :=
 (.seq (.ops [zi 2 (.alloc [(.int .u64 0), (.int .u64 0), (.int .i64 0), (.int .i64 0), (.slice none 0 0), (.slice none 0 0), (.slice none 0 0), (.slice none 0 0), (.slice none 0 0), (.slice none 0 0), (.slice none 0 0), (.int .u64 0), (.int .i64 0)])])
 (.seq (.draw 41 [zj 11 0 (.val (.t 0)), zj 12 1 (.nilck (.t 11)), zj 13 2 (.lea (.t 12) 2), zj 14 3 (.ld (.t 13) none), zj 16 5 (.val (.t 0)), zj 17 6 (.nilck (.t 16)), zj 18 7 (.lea (.t 17) 32), zj 19 8 (.ld (.t 18) none), zj 20 9 (.val (.t 0)), zj 21 10 (.nilck (.t 20)), zj 22 11 (.lea (.t 21) 33), zj 23 12 (.ld (.t 22) none), zj 24 13 (.val (.t 0)), zj 25 14 (.nilck (.t 24)), zj 26 15 (.lea (.t 25) 26), zj 27 16 (.ld (.t 26) none), zj 29 18 (.val (.t 0)), zj 30 19 (.nilck (.t 29)), zj 31 20 (.lea (.t 30) 27), zj 32 21 (.ld (.t 31) none), zj 34 23 (.val (.t 0)), zj 35 24 (.nilck (.t 34)), zj 36 25 (.lea (.t 35) 28), zj 37 26 (.ld (.t 36) none), zj 39 28 (.val (.t 0)), zj 40 29 (.nilck (.t 39)), zj 41 30 (.lea (.t 40) 29), zj 42 31 (.ld (.t 41) none), zj 44 33 (.val (.t 0)), zj 45 34 (.nilck (.t 44)), zj 46 35 (.lea (.t 45) 30), zj 47 36 (.ld (.t 46) none), zk 15 4 (.f 33) [(.t 14)], ⟨none, (.chk (.ld (.t 18) none) 19), none, none⟩, ⟨none, (.chk (.ld (.t 22) none) 23), none, none⟩, ⟨none, (.chk (.ld (.t 26) none) 27), none, none⟩, ⟨none, (.chk (.ld (.t 31) none) 32), none, none⟩, ⟨none, (.chk (.ld (.t 36) none) 37), none, none⟩, ⟨none, (.chk (.ld (.t 41) none) 42), none, none⟩, ⟨none, (.chk (.ld (.t 46) none) 47), none, none⟩, zk 28 17 (.f 34) [(.t 27)], ⟨none, (.chk (.ld (.t 18) none) 19), none, none⟩, ⟨none, (.chk (.ld (.t 22) none) 23), none, none⟩, ⟨none, (.chk (.ld (.t 31) none) 32), none, none⟩, ⟨none, (.chk (.ld (.t 36) none) 37), none, none⟩, ⟨none, (.chk (.ld (.t 41) none) 42), none, none⟩, ⟨none, (.chk (.ld (.t 46) none) 47), none, none⟩, zk 33 22 (.f 35) [(.t 32)], ⟨none, (.chk (.ld (.t 18) none) 19), none, none⟩, ⟨none, (.chk (.ld (.t 22) none) 23), none, none⟩, ⟨none, (.chk (.ld (.t 36) none) 37), none, none⟩, ⟨none, (.chk (.ld (.t 41) none) 42), none, none⟩, ⟨none, (.chk (.ld (.t 46) none) 47), none, none⟩, zk 38 27 (.f 36) [(.t 37)], ⟨none, (.chk (.ld (.t 18) none) 19), none, none⟩, ⟨none, (.chk (.ld (.t 22) none) 23), none, none⟩, ⟨none, (.chk (.ld (.t 41) none) 42), none, none⟩, ⟨none, (.chk (.ld (.t 46) none) 47), none, none⟩, zk 43 32 (.f 37) [(.t 42)], ⟨none, (.chk (.ld (.t 18) none) 19), none, none⟩, ⟨none, (.chk (.ld (.t 22) none) 23), none, none⟩, ⟨none, (.chk (.ld (.t 46) none) 47), none, none⟩, zk 48 37 (.f 38) [(.t 47)], ⟨none, (.chk (.ld (.t 18) none) 19), none, none⟩, ⟨none, (.chk (.ld (.t 22) none) 23), none, none⟩, zj 49 38 (.bld [(.int .u64 0), (.int .u64 0), (.int .i64 0), (.int .i64 0), (.slice none 0 0), (.slice none 0 0), (.slice none 0 0), (.slice none 0 0), (.slice none 0 0), (.slice none 0 0), (.slice none 0 0), (.int .u64 0), (.int .i64 0)] [(0, 1, (.t 15)), (1, 1, (.t 19)), (2, 1, (.t 23)), (3, 1, (.t 28)), (6, 1, (.t 33)), (7, 1, (.t 38)), (9, 1, (.t 43)), (10, 1, (.t 48))]), zj 3 39 (.alloc [(.int .u64 0), (.int .u64 0), (.int .i64 0), (.int .i64 0), (.slice none 0 0), (.slice none 0 0), (.slice none 0 0), (.slice none 0 0), (.slice none 0 0), (.slice none 0 0), (.slice none 0 0), (.int .u64 0), (.int .i64 0)]), zq 40 (.st (.t 3) (.t 49) 13)])
 (.seq (.seq (.ops [zi 4 (.val (.c (.int .i64 0)))])
 (.block 0 (.loop (.seq (.seq (.ops [zv 50 4, zv 51 0, zi 52 (.nilck (.t 51)), zi 53 (.lea (.t 52) 3), zi 54 (.lea (.t 53) 1), zi 55 (.ld (.t 54) none), zi 56 (.bin .lss (.t 50) (.t 55))])
 (.cond (.t 56)
 .skip
 (.exit 0)))
 (.seq (.block 1 (.seq (.ops [zi 5 (.val (.c (.slice none 0 0)))])
 (.seq (.seq (.ops [zi 6 (.val (.c (.int .i64 0)))])
 (.block 2 (.loop (.seq (.seq (.ops [zv 59 6, zv 60 0, zi 61 (.nilck (.t 60)), zi 62 (.lea (.t 61) 3), zi 63 (.lea (.t 62) 2), zi 64 (.ld (.t 63) none), zi 65 (.bin .lss (.t 59) (.t 64))])
 (.cond (.t 65)
 .skip
 (.exit 2)))
 (.seq (.block 3 (.ops [zv 68 5, zv 69 0, zv 70 4, zv 71 6, zc 72 (.f 39) [(.t 69), (.t 70), (.t 71)], zi 73 (.gen (.buildSlice 55 1 #[(0, (.tmp 72))])), zi 74 (.gen (.call ⟨.builtin .append, #[(.tmp 68), (.tmp 73)], #[55, 55]⟩)), zv 5 74]))
 (.ops [zv 66 6, zi 67 (.bin .add (.t 66) (.c (.int .i64 1))), zv 6 67]))))))
 (.ops [zi 75 (.lea (.t 3) 4), zi 76 (.ld (.t 75) none), zv 77 5, zi 78 (.gen (.buildSlice 32 1 #[(0, (.tmp 77))])), zi 79 (.gen (.call ⟨.builtin .append, #[(.tmp 76), (.tmp 78)], #[32, 32]⟩)), zi 80 (.lea (.t 3) 4), zs (.st (.t 80) (.t 79) 1)]))))
 (.ops [zv 57 4, zi 58 (.bin .add (.t 57) (.c (.int .i64 1))), zv 4 58]))))))
 (.seq (.seq (.ops [zv 82 0, zi 83 (.nilck (.t 82)), zi 84 (.lea (.t 83) 0), zi 85 (.ld (.t 84) none), zc 86 (.f 40) [(.t 85), (.c (.int .u64 0))], zv 81 86, zi 87 (.ext (.t 81) 0), zi 88 (.ext (.t 81) 1), zv 7 87, zv 8 88])
 (.block 4 (.loop (.seq (.seq (.ops [zv 89 8])
 (.cond (.t 89)
 .skip
 (.exit 4)))
 (.seq (.block 5 (.seq (.ops [zv 100 0, zi 101 (.nilck (.t 100)), zi 102 (.lea (.t 101) 0), zi 103 (.ld (.t 102) none), zv 104 7, zc 105 (.f 41) [(.t 103), (.t 104)], zv 99 105, zi 106 (.ext (.t 99) 0), zi 107 (.ext (.t 99) 1), zi 9 (.alloc [(.int .u64 0), (.int .i64 0), (.slice none 0 0), (.slice none 0 0), (.int .i64 0)]), zs (.st (.t 9) (.t 106) 5), zv 10 107])
 (.seq (.ops [zi 108 (.lea (.t 3) 5), zi 109 (.ld (.t 108) none), zi 110 (.ld (.t 9) (some 5)), zi 111 (.gen (.buildSlice 33 1 #[(0, (.tmp 110))])), zi 112 (.gen (.call ⟨.builtin .append, #[(.tmp 109), (.tmp 111)], #[33, 33]⟩)), zi 113 (.lea (.t 3) 5), zs (.st (.t 113) (.t 112) 1)])
 (.seq (.ops [zv 114 0, zi 115 (.nilck (.t 114)), zi 116 (.lea (.t 115) 28), zi 117 (.ld (.t 116) none), zv 118 7, zc 119 (.f 42) [(.t 117), (.t 118)]])
 (.cond (.t 119)
 (.ops [zi 120 (.lea (.t 3) 8), zi 121 (.ld (.t 120) none), zv 122 7, zi 123 (.gen (.buildSlice 36 1 #[(0, (.tmp 122))])), zi 124 (.gen (.call ⟨.builtin .append, #[(.tmp 121), (.tmp 123)], #[36, 36]⟩)), zi 125 (.lea (.t 3) 8), zs (.st (.t 125) (.t 124) 1)])
 .skip)))))
 (.ops [zv 91 0, zi 92 (.nilck (.t 91)), zi 93 (.lea (.t 92) 0), zi 94 (.ld (.t 93) none), zv 95 7, zc 96 (.f 40) [(.t 94), (.t 95)], zv 90 96, zi 97 (.ext (.t 90) 0), zi 98 (.ext (.t 90) 1), zv 7 97, zv 8 98]))))))
 (.seq (.ops [zv 127 0, zi 128 (.nilck (.t 127)), zi 129 (.lea (.t 128) 31), zi 130 (.ld (.t 129) none), zc 131 (.f 43) [(.t 130)], zv 126 131, zi 132 (.ext (.t 126) 0), zi 133 (.ext (.t 126) 1), zi 134 (.lea (.t 3) 11), zs (.st (.t 134) (.t 132) 1), zi 135 (.lea (.t 3) 12), zs (.st (.t 135) (.t 133) 1)])
 (.seq (.ops [zi 136 (.ld (.t 3) (some 13)), zs (.st (.t 2) (.t 136) 13)])
 .ret))))))
theorem fm9 (prim : PrimF) (h : prim 9 = none) : FnM (tE prim) 9 m9 [(.cell 2 (some 13))] 1 :=
 ⟨h, _, _, rfl, rfl, by kernel_rfl, by kernel_rfl, by decide⟩

/-- mooring/mooringhand.Config -/
noncomputable def m12 : MC :=
 (.seq (.ops [zi 1 (.box (.t 0)), zi 2 (.alloc [(.int .i64 0), (.int .i64 0), (.int .i64 0), (.int .i64 0), (.int .i64 0), (.int .i64 0), (.int .i64 0), (.int .i64 0), (.int .i64 0), (.int .i64 0), (.int .i64 0), (.int .u64 0), (.int .u64 0), (.int .u64 0), (.int .u64 0), (.int .u64 0), (.int .u64 0), (.int .i64 0), (.int .i64 0), (.int .i64 0), (.int .u64 0), (.int .u64 0)])])
 (.seq (.draw 20 [zj 4 0 (.lea (.t 1) 0), zj 5 1 (.ld (.t 4) none), zj 8 4 (.lea (.t 1) 1), zj 9 5 (.ld (.t 8) none), zj 12 8 (.lea (.t 1) 2), zj 13 9 (.ld (.t 12) none), zj 16 12 (.lea (.t 1) 3), zj 17 13 (.ld (.t 16) none), zk 6 2 (.f 57) [(.t 5), (.c (.int .i64 3))], ⟨none, (.chk (.ld (.t 8) none) 9), none, none⟩, ⟨none, (.chk (.ld (.t 12) none) 13), none, none⟩, ⟨none, (.chk (.ld (.t 16) none) 17), none, none⟩, zj 7 3 (.bin .add (.c (.int .i64 2)) (.t 6)), zk 10 6 (.f 57) [(.t 9), (.c (.int .i64 3))], ⟨none, (.chk (.ld (.t 12) none) 13), none, none⟩, ⟨none, (.chk (.ld (.t 16) none) 17), none, none⟩, zj 11 7 (.bin .add (.c (.int .i64 1)) (.t 10)), zk 14 10 (.f 57) [(.t 13), (.c (.int .i64 4))], ⟨none, (.chk (.ld (.t 16) none) 17), none, none⟩, zj 15 11 (.bin .add (.c (.int .i64 2)) (.t 14)), zk 18 14 (.f 57) [(.t 17), (.c (.int .i64 8))], zj 19 15 (.bin .add (.c (.int .i64 1)) (.t 18)), zj 20 16 (.bin .mul (.c (.int .i64 16)) (.t 19)), zj 21 17 (.bld [(.int .i64 0), (.int .i64 0), (.int .i64 0), (.int .i64 0), (.int .i64 0), (.int .i64 0), (.int .i64 0), (.int .i64 0), (.int .i64 0), (.int .i64 0), (.int .i64 0), (.int .u64 0), (.int .u64 0), (.int .u64 0), (.int .u64 0), (.int .u64 0), (.int .u64 0), (.int .i64 0), (.int .i64 0), (.int .i64 0), (.int .u64 0), (.int .u64 0)] [(0, 1, (.t 7)), (1, 1, (.t 11)), (2, 1, (.t 15)), (3, 1, (.t 20))]), zj 3 18 (.alloc [(.int .i64 0), (.int .i64 0), (.int .i64 0), (.int .i64 0), (.int .i64 0), (.int .i64 0), (.int .i64 0), (.int .i64 0), (.int .i64 0), (.int .i64 0), (.int .i64 0), (.int .u64 0), (.int .u64 0), (.int .u64 0), (.int .u64 0), (.int .u64 0), (.int .u64 0), (.int .i64 0), (.int .i64 0), (.int .i64 0), (.int .u64 0), (.int .u64 0)]), zq 19 (.st (.t 3) (.t 21) 22)])
 (.seq (.ops [zi 22 (.lea (.t 1) 4), zi 23 (.ld (.t 22) none), zc 24 (.f 57) [(.t 23), (.c (.int .i64 14))], zi 25 (.bin .add (.c (.int .i64 2)) (.t 24)), zi 26 (.lea (.t 3) 4), zs (.st (.t 26) (.t 25) 1)])
 (.seq (.ops [zi 27 (.lea (.t 1) 5), zi 28 (.ld (.t 27) none), zc 29 (.f 57) [(.t 28), (.c (.int .i64 10))], zi 30 (.bin .add (.c (.int .i64 2)) (.t 29)), zi 31 (.lea (.t 3) 5), zs (.st (.t 31) (.t 30) 1)])
 (.seq (.ops [zi 32 (.lea (.t 1) 6), zi 33 (.ld (.t 32) none), zc 34 (.f 57) [(.t 33), (.c (.int .i64 6))], zi 35 (.bin .add (.c (.int .i64 1)) (.t 34)), zi 36 (.lea (.t 3) 6), zs (.st (.t 36) (.t 35) 1)])
 (.seq (.ops [zi 37 (.lea (.t 1) 7), zi 38 (.ld (.t 37) none), zc 39 (.f 57) [(.t 38), (.c (.int .i64 4))], zi 40 (.bin .add (.c (.int .i64 1)) (.t 39)), zi 41 (.lea (.t 3) 7), zs (.st (.t 41) (.t 40) 1)])
 (.seq (.ops [zi 42 (.lea (.t 1) 8), zi 43 (.ld (.t 42) none), zc 44 (.f 57) [(.t 43), (.c (.int .i64 8))], zi 45 (.bin .add (.c (.int .i64 1)) (.t 44)), zi 46 (.lea (.t 3) 8), zs (.st (.t 46) (.t 45) 1)])
 (.seq (.ops [zi 47 (.lea (.t 1) 9), zi 48 (.ld (.t 47) none), zc 49 (.f 57) [(.t 48), (.c (.int .i64 60))], zi 50 (.bin .add (.c (.int .i64 4)) (.t 49)), zi 51 (.lea (.t 3) 9), zs (.st (.t 51) (.t 50) 1)])
 (.seq (.ops [zi 52 (.lea (.t 1) 10), zi 53 (.ld (.t 52) none), zc 54 (.f 57) [(.t 53), (.c (.int .i64 4))], zi 55 (.bin .add (.c (.int .i64 1)) (.t 54)), zi 56 (.lea (.t 3) 10), zs (.st (.t 56) (.t 55) 1)])
 (.seq (.ops [zi 57 (.lea (.t 1) 11), zi 58 (.ld (.t 57) none), zc 59 (.f 57) [(.t 58), (.c (.int .i64 20))], zi 60 (.bin .add (.c (.int .i64 4)) (.t 59)), zi 61 (.conv .u64 (.t 60)), zi 62 (.lea (.t 3) 11), zs (.st (.t 62) (.t 61) 1)])
 (.seq (.ops [zi 63 (.lea (.t 1) 12), zi 64 (.ld (.t 63) none), zi 65 (.lea (.t 3) 11), zi 66 (.ld (.t 65) none), zi 67 (.conv .i64 (.t 66)), zi 68 (.bin .quo (.t 67) (.c (.int .i64 2))), zc 69 (.f 57) [(.t 64), (.t 68)], zi 70 (.conv .u64 (.t 69)), zi 71 (.lea (.t 3) 12), zs (.st (.t 71) (.t 70) 1)])
 (.seq (.draw 10 [zj 72 0 (.lea (.t 3) 11), zj 73 1 (.ld (.t 72) none), zj 74 2 (.lea (.t 1) 13), zj 75 3 (.ld (.t 74) none), zk 76 4 (.f 57) [(.t 75), (.c (.int .i64 200))], ⟨none, (.chk (.ld (.t 72) none) 73), none, none⟩, zj 77 5 (.bin .add (.c (.int .i64 40)) (.t 76)), zj 78 6 (.conv .u64 (.t 77)), zj 79 7 (.bin .mul (.t 73) (.t 78)), zj 80 8 (.lea (.t 3) 13), zq 9 (.st (.t 80) (.t 79) 1)])
 (.seq (.ops [zi 81 (.lea (.t 1) 14), zi 82 (.ld (.t 81) none), zc 83 (.f 57) [(.t 82), (.c (.int .i64 30))], zi 84 (.bin .add (.c (.int .i64 1)) (.t 83)), zi 85 (.conv .u64 (.t 84)), zi 86 (.lea (.t 3) 14), zs (.st (.t 86) (.t 85) 1)])
 (.seq (.draw 9 [zj 87 0 (.lea (.t 3) 14), zj 88 1 (.ld (.t 87) none), zj 89 2 (.lea (.t 1) 15), zj 90 3 (.ld (.t 89) none), zk 91 4 (.f 57) [(.t 90), (.c (.int .i64 60))], ⟨none, (.chk (.ld (.t 87) none) 88), none, none⟩, zj 92 5 (.conv .u64 (.t 91)), zj 93 6 (.bin .add (.t 88) (.t 92)), zj 94 7 (.lea (.t 3) 15), zq 8 (.st (.t 94) (.t 93) 1)])
 (.seq (.draw 10 [zj 95 0 (.lea (.t 3) 11), zj 96 1 (.ld (.t 95) none), zj 97 2 (.lea (.t 1) 16), zj 98 3 (.ld (.t 97) none), zk 99 4 (.f 57) [(.t 98), (.c (.int .i64 60))], ⟨none, (.chk (.ld (.t 95) none) 96), none, none⟩, zj 100 5 (.bin .add (.c (.int .i64 1)) (.t 99)), zj 101 6 (.conv .u64 (.t 100)), zj 102 7 (.bin .mul (.t 96) (.t 101)), zj 103 8 (.lea (.t 3) 16), zq 9 (.st (.t 103) (.t 102) 1)])
 (.seq (.ops [zi 104 (.lea (.t 1) 17), zi 105 (.ld (.t 104) none), zc 106 (.f 57) [(.t 105), (.c (.int .i64 4))], zi 107 (.bin .add (.c (.int .i64 1)) (.t 106)), zi 108 (.lea (.t 3) 17), zs (.st (.t 108) (.t 107) 1)])
 (.seq (.draw 9 [zj 109 0 (.lea (.t 3) 17), zj 110 1 (.ld (.t 109) none), zj 111 2 (.bin .add (.t 110) (.c (.int .i64 1))), zj 112 3 (.lea (.t 1) 18), zj 113 4 (.ld (.t 112) none), zk 114 5 (.f 57) [(.t 113), (.c (.int .i64 4))], ⟨none, (.chk (.ld (.t 109) none) 110), none, none⟩, zj 115 6 (.bin .add (.t 111) (.t 114)), zj 116 7 (.lea (.t 3) 18), zq 8 (.st (.t 116) (.t 115) 1)])
 (.seq (.ops [zi 117 (.lea (.t 1) 19), zi 118 (.ld (.t 117) none), zc 119 (.f 57) [(.t 118), (.c (.int .i64 12))], zi 120 (.bin .add (.c (.int .i64 1)) (.t 119)), zi 121 (.lea (.t 3) 19), zs (.st (.t 121) (.t 120) 1)])
 (.seq (.ops [zi 122 (.lea (.t 1) 20), zi 123 (.ld (.t 122) none), zi 124 (.bin .rem (.t 123) (.c (.int .u64 1000))), zi 125 (.lea (.t 3) 20), zs (.st (.t 125) (.t 124) 1)])
 (.seq (.ops [zi 126 (.lea (.t 1) 21), zi 127 (.ld (.t 126) none), zi 128 (.bin .rem (.t 127) (.c (.int .u64 1000))), zi 129 (.lea (.t 3) 21), zs (.st (.t 129) (.t 128) 1)])
 (.seq (.ops [zi 130 (.ld (.t 3) (some 22)), zs (.st (.t 2) (.t 130) 22)])
 .ret)))))))))))))))))))))
theorem fm12 (prim : PrimF) (h : prim 12 = none) : FnM (tE prim) 12 m12 [(.cell 2 (some 22))] 1 :=
 ⟨h, _, _, rfl, rfl, by kernel_rfl, by kernel_rfl, by decide⟩

/-- mooring/mooringlaw24.op -/
noncomputable def m13 : MC :=
 (.seq (.ops [zi 2 (.box (.t 0)), zi 3 (.box (.t 1)), zi 4 (.alloc [(.int .i64 0), (.int .i64 0), (.int .i64 0), (.int .i64 0), (.int .i64 0), (.int .i64 0), (.int .i64 0), (.int .u64 0), (.int .u64 0)])])
 (.seq (.seq (.ops [zi 5 (.lea (.t 2) 5), zi 6 (.ld (.t 5) none), zi 7 (.bin .rem (.t 6) (.c (.int .i64 11))), zi 8 (.bin .eql (.t 7) (.c (.int .i64 10)))])
 (.cond (.t 8)
 (.seq (.ops [zi 9 (.ld (.t 2) (some 9)), zs (.st (.t 4) (.t 9) 9)])
 .ret)
 .skip))
 (.seq (.ops [zi 10 (.lea (.t 2) 0), zi 11 (.ld (.t 10) none), zc 12 (.f 57) [(.t 11), (.c (.int .i64 15))], zi 13 (.bin .add (.c (.int .i64 1)) (.t 12)), zi 14 (.lea (.t 2) 0), zs (.st (.t 14) (.t 13) 1)])
 (.seq (.ops [zi 15 (.lea (.t 2) 1), zi 16 (.ld (.t 15) none), zi 17 (.lea (.t 3) 2), zi 18 (.ld (.t 17) none), zc 19 (.f 57) [(.t 16), (.t 18)], zi 20 (.lea (.t 2) 1), zs (.st (.t 20) (.t 19) 1)])
 (.seq (.ops [zi 21 (.lea (.t 2) 2), zi 22 (.ld (.t 21) none), zi 23 (.lea (.t 3) 2), zi 24 (.ld (.t 23) none), zi 25 (.bin .add (.t 24) (.c (.int .i64 1))), zc 26 (.f 57) [(.t 22), (.t 25)], zi 27 (.bin .sub (.t 26) (.c (.int .i64 1))), zi 28 (.lea (.t 2) 2), zs (.st (.t 28) (.t 27) 1)])
 (.seq (.seq (.ops [zi 29 (.lea (.t 2) 2), zi 30 (.ld (.t 29) none), zi 31 (.bin .lss (.t 30) (.c (.int .i64 0))), zv 32 31, zg 33 32 true (.lea (.t 2) 0), zg 34 32 true (.ld (.t 33) none), zg 35 32 true (.bin .neq (.t 34) (.c (.int .i64 5))), zi 36 (.pick (.t 32) (.t 35) (.c (.bool false))), zv 37 36, zg 38 37 true (.lea (.t 2) 0), zg 39 37 true (.ld (.t 38) none), zg 40 37 true (.bin .neq (.t 39) (.c (.int .i64 11))), zi 41 (.pick (.t 37) (.t 40) (.c (.bool false)))])
 (.cond (.t 41)
 (.ops [zi 42 (.lea (.t 2) 2), zs (.st (.t 42) (.c (.int .i64 0)) 1)])
 .skip))
 (.seq (.ops [zi 43 (.lea (.t 2) 3), zi 44 (.ld (.t 43) none), zc 45 (.f 57) [(.t 44), (.c (.int .i64 3))], zi 46 (.lea (.t 2) 3), zs (.st (.t 46) (.t 45) 1)])
 (.seq (.ops [zi 47 (.lea (.t 2) 4), zi 48 (.ld (.t 47) none), zc 49 (.f 57) [(.t 48), (.c (.int .i64 4))], zi 50 (.lea (.t 2) 4), zs (.st (.t 50) (.t 49) 1)])
 (.seq (.ops [zi 51 (.lea (.t 2) 5), zi 52 (.ld (.t 51) none), zc 53 (.f 57) [(.t 52), (.c (.int .i64 3))], zi 54 (.lea (.t 2) 5), zs (.st (.t 54) (.t 53) 1)])
 (.seq (.ops [zi 55 (.lea (.t 2) 6), zi 56 (.ld (.t 55) none), zi 57 (.lea (.t 3) 0), zi 58 (.ld (.t 57) none), zc 59 (.f 57) [(.t 56), (.t 58)], zi 60 (.bin .add (.c (.int .i64 1)) (.t 59)), zi 61 (.lea (.t 2) 6), zs (.st (.t 61) (.t 60) 1)])
 (.seq (.ops [zi 62 (.lea (.t 3) 21), zi 63 (.ld (.t 62) none), zi 64 (.bin .add (.t 63) (.c (.int .u64 1))), zi 65 (.lea (.t 2) 8), zi 66 (.ld (.t 65) none), zi 67 (.bin .rem (.t 66) (.c (.int .u64 6))), zi 68 (.bin .add (.t 64) (.t 67)), zi 69 (.lea (.t 2) 8), zs (.st (.t 69) (.t 68) 1)])
 (.seq (.ops [zi 70 (.ld (.t 2) (some 9)), zs (.st (.t 4) (.t 70) 9)])
 .ret))))))))))))
theorem fm13 (prim : PrimF) (h : prim 13 = none) : FnM (tE prim) 13 m13 [(.cell 4 (some 9))] 2 :=
 ⟨h, _, _, rfl, rfl, by kernel_rfl, by kernel_rfl, by decide⟩

/-- (*mooring/node.Node).Do -/
noncomputable def m14 : MC :=
 (.seq (.ops [zi 5 (.box (.t 2)), zi 6 (.alloc [(.int .i64 0), (.int .i64 0), (.int .u64 0), (.int .u64 0), (.int .i64 0), (.int .u64 0)]), zi 7 (.val (.c (.slice none 0 0)))])
 (.seq (.seq (.ops [zv 12 0, zv 13 1, zi 14 (.ld (.t 5) (some 9)), zc 15 (.f 58) [(.t 12), (.t 13), (.t 14)], zi 16 (.not (.t 15))])
 (.cond (.t 16)
 (.seq (.ops [zc 17 (.f 59) [(.c (.int .i64 5))], zi 18 (.ext (.t 17) 0), zi 19 (.ext (.t 17) 1), zs (.st (.t 6) (.t 18) 6), zv 7 19])
 .ret)
 .skip))
 (.seq (.draw 14 [zj 20 0 (.val (.t 0)), zj 21 1 (.val (.t 1)), zj 22 2 (.lea (.t 5) 1), zj 23 3 (.ld (.t 22) none), zj 25 5 (.val (.t 0)), zj 26 6 (.val (.t 1)), zj 27 7 (.lea (.t 5) 2), zj 28 8 (.ld (.t 27) none), zk 24 4 (.f 39) [(.t 20), (.t 21), (.t 23)], ⟨none, (.chk (.ld (.t 27) none) 28), none, none⟩, zk 29 9 (.f 39) [(.t 25), (.t 26), (.t 28)], zj 8 10 (.alloc [(.int .i64 0), (.int .u64 0)]), zj 9 11 (.alloc [(.int .i64 0), (.int .u64 0)]), zq 12 (.st (.t 8) (.t 24) 2), zq 13 (.st (.t 9) (.t 29) 2)])
 (.seq (.seq (.ops [zi 30 (.lea (.t 5) 0), zi 31 (.ld (.t 30) none)])
 (.block 0 (.seq (.ops [zi 33 (.bin .eql (.t 31) (.c (.int .i64 1))), zv 32 33])
 (.cond (.t 32)
 (.seq (.draw 14 [zj 35 0 (.val (.t 0)), zj 36 1 (.nilck (.t 35)), zj 37 2 (.lea (.t 36) 0), zj 38 3 (.ld (.t 37) none), zj 39 4 (.lea (.t 5) 4), zj 40 5 (.ld (.t 39) none), zj 41 6 (.lea (.t 5) 5), zj 42 7 (.ld (.t 41) none), zk 43 8 (.f 60) [(.t 38), (.t 40), (.t 42)], zj 34 9 (.val (.t 43)), zj 44 10 (.ext (.t 34) 0), zj 45 11 (.ext (.t 34) 1), zj 10 12 (.val (.t 44)), zj 11 13 (.val (.t 45))])
 (.seq (.seq (.ops [zv 46 11, zi 47 (.bin .neq (.t 46) (.c (.int .i64 0)))])
 (.cond (.t 47)
 (.seq (.ops [zv 48 11, zc 49 (.f 59) [(.t 48)], zi 50 (.ext (.t 49) 0), zi 51 (.ext (.t 49) 1), zs (.st (.t 6) (.t 50) 6), zv 7 51])
 .ret)
 .skip))
 (.seq (.ops [zv 52 0, zi 53 (.nilck (.t 52)), zi 54 (.lea (.t 53) 26), zi 55 (.ld (.t 54) none), zv 56 1, zv 57 10, zc 58 (.f 61) [(.t 55), (.t 56), (.t 57)]])
 (.seq (.draw 13 [zj 59 0 (.val (.t 0)), zj 60 1 (.val (.t 1)), zj 61 2 (.lea (.t 5) 1), zj 62 3 (.ld (.t 61) none), zj 63 4 (.val (.t 0)), zj 64 5 (.nilck (.t 63)), zj 65 6 (.lea (.t 64) 25), zj 66 7 (.ld (.t 65) none), zj 67 8 (.val (.t 10)), zj 68 9 (.bld [(.int .i64 0), (.int .u64 0)] [(0, 1, (.t 66)), (1, 1, (.t 67))]), zk 69 10 (.f 62) [(.t 59), (.t 60), (.t 62), (.t 68)], zq 11 (.st (.t 6) (.t 69) 6), zj 7 12 (.val (.c (.slice none 0 0)))])
 .ret))))
 (.seq (.ops [zi 71 (.bin .eql (.t 31) (.c (.int .i64 2))), zv 70 71])
 (.cond (.t 70)
 (.seq (.block 1 (.seq (.draw 4 [zj 73 0 (.ld (.t 9) (some 2)), zk 74 1 (.f 63) [], ⟨none, (.chk (.ld (.t 9) (some 2)) 73), none, none⟩, zj 75 2 (.eqv 54 false (.t 73) (.t 74)), zj 72 3 (.val (.t 75))])
 (.cond (.t 72)
 (.seq (.ops [zc 76 (.f 59) [(.c (.int .i64 5))], zi 77 (.ext (.t 76) 0), zi 78 (.ext (.t 76) 1), zs (.st (.t 6) (.t 77) 6), zv 7 78])
 .ret)
 (.seq (.ops [zv 80 0, zi 81 (.ld (.t 9) (some 2)), zc 82 (.f 64) [(.t 80), (.t 81)], zv 79 82])
 (.cond (.t 79)
 (.seq (.ops [zc 83 (.f 59) [(.c (.int .i64 4))], zi 84 (.ext (.t 83) 0), zi 85 (.ext (.t 83) 1), zs (.st (.t 6) (.t 84) 6), zv 7 85])
 .ret)
 .skip)))))
 (.seq (.ops [zv 86 0, zv 87 1, zi 88 (.lea (.t 5) 1), zi 89 (.ld (.t 88) none), zi 90 (.ld (.t 9) (some 2)), zc 91 (.f 62) [(.t 86), (.t 87), (.t 89), (.t 90)], zs (.st (.t 6) (.t 91) 6), zi 7 (.val (.c (.slice none 0 0)))])
 .ret))
 (.seq (.ops [zi 93 (.bin .eql (.t 31) (.c (.int .i64 3))), zv 92 93])
 (.cond (.t 92)
 (.seq (.draw 9 [zj 94 0 (.val (.t 0)), zj 95 1 (.nilck (.t 94)), zj 96 2 (.lea (.t 95) 1), zj 97 3 (.ld (.t 96) none), zj 98 4 (.val (.t 1)), zj 99 5 (.lea (.t 5) 1), zj 100 6 (.ld (.t 99) none), zk 101 7 (.f 63) [], ⟨none, (.chk (.ld (.t 96) none) 97), none, none⟩, ⟨none, (.chk (.ld (.t 99) none) 100), none, none⟩, zk 102 8 (.f 65) [(.t 97), (.t 98), (.t 100), (.t 101)]])
 (.seq (.ops [zc 103 (.f 59) [(.c (.int .i64 0))], zi 104 (.ext (.t 103) 0), zi 105 (.ext (.t 103) 1), zs (.st (.t 6) (.t 104) 6), zv 7 105])
 .ret))
 (.seq (.ops [zi 107 (.bin .eql (.t 31) (.c (.int .i64 8))), zv 106 107])
 (.cond (.t 106)
 (.seq (.seq (.ops [zi 108 (.ld (.t 8) (some 2)), zi 109 (.ld (.t 9) (some 2)), zi 110 (.eqv 54 false (.t 108) (.t 109))])
 (.cond (.t 110)
 (.seq (.ops [zi 111 (.bld [(.int .i64 0), (.int .i64 0), (.int .u64 0), (.int .u64 0), (.int .i64 0), (.int .u64 0)] [(3, 1, (.c (.int .u64 1)))]), zs (.st (.t 6) (.t 111) 6), zi 7 (.val (.c (.slice none 0 0)))])
 .ret)
 .skip))
 (.seq (.ops [zc 112 (.f 59) [(.c (.int .i64 0))], zi 113 (.ext (.t 112) 0), zi 114 (.ext (.t 112) 1), zs (.st (.t 6) (.t 113) 6), zv 7 114])
 .ret))
 (.seq (.seq (.ops [zi 116 (.bin .eql (.t 31) (.c (.int .i64 4))), zv 115 116])
 (.cond (.t 115)
 .skip
 (.seq (.ops [zi 117 (.bin .eql (.t 31) (.c (.int .i64 6))), zv 115 117])
 (.cond (.t 115)
 .skip
 (.seq (.ops [zi 118 (.bin .eql (.t 31) (.c (.int .i64 7))), zv 115 118])
 (.cond (.t 115)
 .skip
 (.ops [zi 119 (.bin .eql (.t 31) (.c (.int .i64 5))), zv 115 119])))))))
 (.cond (.t 115)
 (.seq (.ops [zv 120 0, zv 121 1, zi 122 (.ld (.t 5) (some 9)), zi 123 (.ld (.t 8) (some 2)), zi 124 (.ld (.t 9) (some 2)), zc 125 (.f 66) [(.t 120), (.t 121), (.t 122), (.t 123), (.t 124)], zs (.st (.t 6) (.t 125) 6), zi 7 (.val (.c (.slice none 0 0)))])
 .ret)
 (.seq (.ops [zi 127 (.bin .eql (.t 31) (.c (.int .i64 14))), zv 126 127])
 (.cond (.t 126)
 (.seq (.ops [zv 128 0, zv 129 1, zi 130 (.ld (.t 5) (some 9)), zc 131 (.f 67) [(.t 128), (.t 129), (.t 130)], zi 132 (.ext (.t 131) 0), zi 133 (.ext (.t 131) 1), zs (.st (.t 6) (.t 132) 6), zv 7 133])
 .ret)
 .skip))))))))))))))
 (.seq (.ops [zv 134 0, zi 135 (.ld (.t 5) (some 9)), zi 136 (.ld (.t 8) (some 2)), zi 137 (.ld (.t 9) (some 2)), zc 138 (.f 68) [(.t 134), (.t 135), (.t 136), (.t 137)], zs (.st (.t 6) (.t 138) 6), zi 7 (.val (.c (.slice none 0 0)))])
 .ret)))))
theorem fm14 (prim : PrimF) (h : prim 14 = none) : FnM (tE prim) 14 m14 [(.cell 6 (some 6)), (.t 7)] 3 :=
 ⟨h, _, _, rfl, rfl, by kernel_rfl, by kernel_rfl, by decide⟩

/-- (*mooring/clock.Clock).Tick -/
noncomputable def m15 : MC :=
 (.seq (.ops [zi 4 (.val (.c (.int .i64 0)))])
 (.seq (.block 0 (.seq (.ops [zv 6 1, zi 7 (.bin .gtr (.t 6) (.c (.int .u64 4294967295))), zv 5 7])
 (.cond (.t 5)
 (.seq (.ops [zi 4 (.val (.c (.int .i64 1)))])
 .ret)
 (.seq (.ops [zv 9 1, zv 10 0, zi 11 (.nilck (.t 10)), zi 12 (.lea (.t 11) 0), zi 13 (.ld (.t 12) none), zi 14 (.bin .sub (.c (.int .u64 4611686018427387904)) (.t 13)), zi 15 (.bin .gtr (.t 9) (.t 14)), zv 8 15])
 (.cond (.t 8)
 (.seq (.ops [zi 4 (.val (.c (.int .i64 7)))])
 .ret)
 .skip)))))
 (.seq (.ops [zv 16 0, zi 17 (.nilck (.t 16)), zi 18 (.lea (.t 17) 0), zi 19 (.ld (.t 18) none), zv 20 1, zi 21 (.bin .add (.t 19) (.t 20)), zi 22 (.nilck (.t 16)), zi 23 (.lea (.t 22) 0), zs (.st (.t 23) (.t 21) 1)])
 (.seq (.ops [zi 4 (.val (.c (.int .i64 0)))])
 .ret))))
theorem fm15 (prim : PrimF) (h : prim 15 = none) : FnM (tE prim) 15 m15 [(.t 4)] 2 :=
 ⟨h, _, _, rfl, rfl, by kernel_rfl, by kernel_rfl, by decide⟩

/-- mooring/mooringref2.IDs -/
noncomputable def m26 : MC :=
 (.seq (.ops [zi 4 (.val (.c (.bool false)))])
 (.seq (.seq (.ops [zv 6 0, zi 7 (.lenS (.t 6)), zv 8 1, zi 9 (.lenS (.t 8)), zi 10 (.bin .neq (.t 7) (.t 9))])
 (.cond (.t 10)
 (.seq (.ops [zi 4 (.val (.c (.bool false)))])
 .ret)
 .skip))
 (.seq (.seq (.ops [zi 5 (.val (.c (.int .i64 0)))])
 (.block 0 (.loop (.seq (.seq (.ops [zv 11 5, zv 12 0, zi 13 (.lenS (.t 12)), zi 14 (.bin .lss (.t 11) (.t 13))])
 (.cond (.t 14)
 .skip
 (.exit 0)))
 (.seq (.block 1 (.seq (.draw 9 [zj 17 0 (.val (.t 0)), zj 18 1 (.val (.t 5)), zj 19 2 (.idxA (.t 17) (.t 18) 2), zj 20 3 (.ld (.t 19) (some 2)), zj 21 4 (.val (.t 1)), zj 22 5 (.val (.t 5)), zj 23 6 (.idxA (.t 21) (.t 22) 2), zj 24 7 (.ld (.t 23) (some 2)), zj 25 8 (.eqv 54 true (.t 20) (.t 24))])
 (.cond (.t 25)
 (.seq (.ops [zi 4 (.val (.c (.bool false)))])
 .ret)
 .skip)))
 (.ops [zv 15 5, zi 16 (.bin .add (.t 15) (.c (.int .i64 1))), zv 5 16]))))))
 (.seq (.ops [zi 4 (.val (.c (.bool true)))])
 .ret))))
theorem fm26 (prim : PrimF) (h : prim 26 = none) : FnM (tE prim) 26 m26 [(.t 4)] 2 :=
 ⟨h, _, _, rfl, rfl, by kernel_rfl, by kernel_rfl, by decide⟩

/-- mooring/mooringhand.Objects -/
noncomputable def m27 : MC :=
 (.seq (.ops [zi 4 (.val (.c (.bool false)))])
 (.seq (.seq (.ops [zv 6 0, zi 7 (.lenS (.t 6)), zv 8 1, zi 9 (.lenS (.t 8)), zi 10 (.bin .neq (.t 7) (.t 9))])
 (.cond (.t 10)
 (.seq (.ops [zi 4 (.val (.c (.bool false)))])
 .ret)
 .skip))
 (.seq (.seq (.ops [zi 5 (.val (.c (.int .i64 0)))])
 (.block 0 (.loop (.seq (.seq (.ops [zv 11 5, zv 12 0, zi 13 (.lenS (.t 12)), zi 14 (.bin .lss (.t 11) (.t 13))])
 (.cond (.t 14)
 .skip
 (.exit 0)))
 (.seq (.block 1 (.seq (.draw 10 [zj 17 0 (.val (.t 0)), zj 18 1 (.val (.t 5)), zj 19 2 (.idxA (.t 17) (.t 18) 5), zj 20 3 (.ld (.t 19) (some 5)), zj 21 4 (.val (.t 1)), zj 22 5 (.val (.t 5)), zj 23 6 (.idxA (.t 21) (.t 22) 5), zj 24 7 (.ld (.t 23) (some 5)), zk 25 8 (.f 81) [(.t 20), (.t 24)], zj 26 9 (.not (.t 25))])
 (.cond (.t 26)
 (.seq (.ops [zi 4 (.val (.c (.bool false)))])
 .ret)
 .skip)))
 (.ops [zv 15 5, zi 16 (.bin .add (.t 15) (.c (.int .i64 1))), zv 5 16]))))))
 (.seq (.ops [zi 4 (.val (.c (.bool true)))])
 .ret))))
theorem fm27 (prim : PrimF) (h : prim 27 = none) : FnM (tE prim) 27 m27 [(.t 4)] 2 :=
 ⟨h, _, _, rfl, rfl, by kernel_rfl, by kernel_rfl, by decide⟩

/-- mooring/mooringhand.Stubs -/
noncomputable def m28 : MC :=
 (.seq (.ops [zi 4 (.val (.c (.bool false)))])
 (.seq (.seq (.ops [zv 6 0, zi 7 (.lenS (.t 6)), zv 8 1, zi 9 (.lenS (.t 8)), zi 10 (.bin .neq (.t 7) (.t 9))])
 (.cond (.t 10)
 (.seq (.ops [zi 4 (.val (.c (.bool false)))])
 .ret)
 .skip))
 (.seq (.seq (.ops [zi 5 (.val (.c (.int .i64 0)))])
 (.block 0 (.loop (.seq (.seq (.ops [zv 11 5, zv 12 0, zi 13 (.lenS (.t 12)), zi 14 (.bin .lss (.t 11) (.t 13))])
 (.cond (.t 14)
 .skip
 (.exit 0)))
 (.seq (.block 1 (.seq (.draw 10 [zj 17 0 (.val (.t 0)), zj 18 1 (.val (.t 5)), zj 19 2 (.idxA (.t 17) (.t 18) 9), zj 20 3 (.ld (.t 19) (some 9)), zj 21 4 (.val (.t 1)), zj 22 5 (.val (.t 5)), zj 23 6 (.idxA (.t 21) (.t 22) 9), zj 24 7 (.ld (.t 23) (some 9)), zk 25 8 (.f 82) [(.t 20), (.t 24)], zj 26 9 (.not (.t 25))])
 (.cond (.t 26)
 (.seq (.ops [zi 4 (.val (.c (.bool false)))])
 .ret)
 .skip)))
 (.ops [zv 15 5, zi 16 (.bin .add (.t 15) (.c (.int .i64 1))), zv 5 16]))))))
 (.seq (.ops [zi 4 (.val (.c (.bool true)))])
 .ret))))
theorem fm28 (prim : PrimF) (h : prim 28 = none) : FnM (tE prim) 28 m28 [(.t 4)] 2 :=
 ⟨h, _, _, rfl, rfl, by kernel_rfl, by kernel_rfl, by decide⟩

/-- mooring/mooringhand.Scions -/
noncomputable def m29 : MC :=
 (.seq (.ops [zi 4 (.val (.c (.bool false)))])
 (.seq (.seq (.ops [zv 6 0, zi 7 (.lenS (.t 6)), zv 8 1, zi 9 (.lenS (.t 8)), zi 10 (.bin .neq (.t 7) (.t 9))])
 (.cond (.t 10)
 (.seq (.ops [zi 4 (.val (.c (.bool false)))])
 .ret)
 .skip))
 (.seq (.seq (.ops [zi 5 (.val (.c (.int .i64 0)))])
 (.block 0 (.loop (.seq (.seq (.ops [zv 11 5, zv 12 0, zi 13 (.lenS (.t 12)), zi 14 (.bin .lss (.t 11) (.t 13))])
 (.cond (.t 14)
 .skip
 (.exit 0)))
 (.seq (.block 1 (.seq (.draw 10 [zj 17 0 (.val (.t 0)), zj 18 1 (.val (.t 5)), zj 19 2 (.idxA (.t 17) (.t 18) 6), zj 20 3 (.ld (.t 19) (some 6)), zj 21 4 (.val (.t 1)), zj 22 5 (.val (.t 5)), zj 23 6 (.idxA (.t 21) (.t 22) 6), zj 24 7 (.ld (.t 23) (some 6)), zk 25 8 (.f 83) [(.t 20), (.t 24)], zj 26 9 (.not (.t 25))])
 (.cond (.t 26)
 (.seq (.ops [zi 4 (.val (.c (.bool false)))])
 .ret)
 .skip)))
 (.ops [zv 15 5, zi 16 (.bin .add (.t 15) (.c (.int .i64 1))), zv 5 16]))))))
 (.seq (.ops [zi 4 (.val (.c (.bool true)))])
 .ret))))
theorem fm29 (prim : PrimF) (h : prim 29 = none) : FnM (tE prim) 29 m29 [(.t 4)] 2 :=
 ⟨h, _, _, rfl, rfl, by kernel_rfl, by kernel_rfl, by decide⟩

/-- mooring/mooringref2.Numbers -/
noncomputable def m30 : MC :=
 (.seq (.ops [zi 4 (.val (.c (.bool false)))])
 (.seq (.seq (.ops [zv 6 0, zi 7 (.lenS (.t 6)), zv 8 1, zi 9 (.lenS (.t 8)), zi 10 (.bin .neq (.t 7) (.t 9))])
 (.cond (.t 10)
 (.seq (.ops [zi 4 (.val (.c (.bool false)))])
 .ret)
 .skip))
 (.seq (.seq (.ops [zi 5 (.val (.c (.int .i64 0)))])
 (.block 0 (.loop (.seq (.seq (.ops [zv 11 5, zv 12 0, zi 13 (.lenS (.t 12)), zi 14 (.bin .lss (.t 11) (.t 13))])
 (.cond (.t 14)
 .skip
 (.exit 0)))
 (.seq (.block 1 (.seq (.draw 9 [zj 17 0 (.val (.t 0)), zj 18 1 (.val (.t 5)), zj 19 2 (.idxA (.t 17) (.t 18) 1), zj 20 3 (.ld (.t 19) none), zj 21 4 (.val (.t 1)), zj 22 5 (.val (.t 5)), zj 23 6 (.idxA (.t 21) (.t 22) 1), zj 24 7 (.ld (.t 23) none), zj 25 8 (.bin .neq (.t 20) (.t 24))])
 (.cond (.t 25)
 (.seq (.ops [zi 4 (.val (.c (.bool false)))])
 .ret)
 .skip)))
 (.ops [zv 15 5, zi 16 (.bin .add (.t 15) (.c (.int .i64 1))), zv 5 16]))))))
 (.seq (.ops [zi 4 (.val (.c (.bool true)))])
 .ret))))
theorem fm30 (prim : PrimF) (h : prim 30 = none) : FnM (tE prim) 30 m30 [(.t 4)] 2 :=
 ⟨h, _, _, rfl, rfl, by kernel_rfl, by kernel_rfl, by decide⟩

/-- mooring/mooringhand.Calls -/
noncomputable def m31 : MC :=
 (.seq (.ops [zi 4 (.val (.c (.bool false)))])
 (.seq (.seq (.ops [zv 6 0, zi 7 (.lenS (.t 6)), zv 8 1, zi 9 (.lenS (.t 8)), zi 10 (.bin .neq (.t 7) (.t 9))])
 (.cond (.t 10)
 (.seq (.ops [zi 4 (.val (.c (.bool false)))])
 .ret)
 .skip))
 (.seq (.seq (.ops [zi 5 (.val (.c (.int .i64 0)))])
 (.block 0 (.loop (.seq (.seq (.ops [zv 11 5, zv 12 0, zi 13 (.lenS (.t 12)), zi 14 (.bin .lss (.t 11) (.t 13))])
 (.cond (.t 14)
 .skip
 (.exit 0)))
 (.seq (.block 1 (.seq (.draw 10 [zj 17 0 (.val (.t 0)), zj 18 1 (.val (.t 5)), zj 19 2 (.idxA (.t 17) (.t 18) 15), zj 20 3 (.ld (.t 19) (some 15)), zj 21 4 (.val (.t 1)), zj 22 5 (.val (.t 5)), zj 23 6 (.idxA (.t 21) (.t 22) 15), zj 24 7 (.ld (.t 23) (some 15)), zk 25 8 (.f 84) [(.t 20), (.t 24)], zj 26 9 (.not (.t 25))])
 (.cond (.t 26)
 (.seq (.ops [zi 4 (.val (.c (.bool false)))])
 .ret)
 .skip)))
 (.ops [zv 15 5, zi 16 (.bin .add (.t 15) (.c (.int .i64 1))), zv 5 16]))))))
 (.seq (.ops [zi 4 (.val (.c (.bool true)))])
 .ret))))
theorem fm31 (prim : PrimF) (h : prim 31 = none) : FnM (tE prim) 31 m31 [(.t 4)] 2 :=
 ⟨h, _, _, rfl, rfl, by kernel_rfl, by kernel_rfl, by decide⟩

/-- mooring/mooringhand.Served -/
noncomputable def m32 : MC :=
 (.seq (.ops [zi 4 (.val (.c (.bool false)))])
 (.seq (.seq (.ops [zv 6 0, zi 7 (.lenS (.t 6)), zv 8 1, zi 9 (.lenS (.t 8)), zi 10 (.bin .neq (.t 7) (.t 9))])
 (.cond (.t 10)
 (.seq (.ops [zi 4 (.val (.c (.bool false)))])
 .ret)
 .skip))
 (.seq (.seq (.ops [zi 5 (.val (.c (.int .i64 0)))])
 (.block 0 (.loop (.seq (.seq (.ops [zv 11 5, zv 12 0, zi 13 (.lenS (.t 12)), zi 14 (.bin .lss (.t 11) (.t 13))])
 (.cond (.t 14)
 .skip
 (.exit 0)))
 (.seq (.block 1 (.seq (.draw 10 [zj 17 0 (.val (.t 0)), zj 18 1 (.val (.t 5)), zj 19 2 (.idxA (.t 17) (.t 18) 14), zj 20 3 (.ld (.t 19) (some 14)), zj 21 4 (.val (.t 1)), zj 22 5 (.val (.t 5)), zj 23 6 (.idxA (.t 21) (.t 22) 14), zj 24 7 (.ld (.t 23) (some 14)), zk 25 8 (.f 85) [(.t 20), (.t 24)], zj 26 9 (.not (.t 25))])
 (.cond (.t 26)
 (.seq (.ops [zi 4 (.val (.c (.bool false)))])
 .ret)
 .skip)))
 (.ops [zv 15 5, zi 16 (.bin .add (.t 15) (.c (.int .i64 1))), zv 5 16]))))))
 (.seq (.ops [zi 4 (.val (.c (.bool true)))])
 .ret))))
theorem fm32 (prim : PrimF) (h : prim 32 = none) : FnM (tE prim) 32 m32 [(.t 4)] 2 :=
 ⟨h, _, _, rfl, rfl, by kernel_rfl, by kernel_rfl, by decide⟩

/-- (*mooring/clock.Clock).Now -/
noncomputable def m33 : MC :=
 (.seq (.ops [zi 2 (.val (.c (.int .u64 0)))])
 (.seq (.ops [zv 3 0, zi 4 (.nilck (.t 3)), zi 5 (.lea (.t 4) 0), zi 6 (.ld (.t 5) none), zv 2 6])
 .ret))
theorem fm33 (prim : PrimF) (h : prim 33 = none) : FnM (tE prim) 33 m33 [(.t 2)] 1 :=
 ⟨h, _, _, rfl, rfl, by kernel_rfl, by kernel_rfl, by decide⟩

/-- (*mooring/cycle.Cycle).State -/
noncomputable def m34 : MC :=
 (.seq (.ops [zi 2 (.val (.c (.int .i64 0)))])
 (.seq (.block 0 (.seq (.ops [zv 4 0, zi 5 (.nilck (.t 4)), zi 6 (.lea (.t 5) 7), zi 7 (.ld (.t 6) none), zi 8 (.bin .neq (.t 7) (.c (.int .i64 0))), zv 3 8])
 (.cond (.t 3)
 (.seq (.ops [zv 9 0, zi 10 (.nilck (.t 9)), zi 11 (.lea (.t 10) 7), zi 12 (.ld (.t 11) none), zv 2 12])
 .ret)
 (.seq (.ops [zv 14 0, zi 15 (.nilck (.t 14)), zi 16 (.lea (.t 15) 0), zi 17 (.ld (.t 16) none), zc 18 (.f 86) [(.t 17)], zi 19 (.bin .eql (.t 18) (.c (.int .i64 1))), zv 13 19])
 (.cond (.t 13)
 (.seq (.ops [zi 2 (.val (.c (.int .i64 1)))])
 .ret)
 (.seq (.ops [zv 21 0, zi 22 (.nilck (.t 21)), zi 23 (.lea (.t 22) 0), zi 24 (.ld (.t 23) none), zc 25 (.f 86) [(.t 24)], zi 26 (.bin .neq (.t 25) (.c (.int .i64 0))), zv 20 26])
 (.cond (.t 20)
 (.seq (.ops [zi 2 (.val (.c (.int .i64 2)))])
 .ret)
 .skip)))))))
 (.seq (.ops [zi 2 (.val (.c (.int .i64 0)))])
 .ret)))
theorem fm34 (prim : PrimF) (h : prim 34 = none) : FnM (tE prim) 34 m34 [(.t 2)] 1 :=
 ⟨h, _, _, rfl, rfl, by kernel_rfl, by kernel_rfl, by decide⟩

/-- (*mooring/stub.Table).All -/
noncomputable def m35 : MC :=
 (.seq (.ops [zi 2 (.val (.c (.slice none 0 0)))])
 (.seq (.ops [zi 3 (.val (.c (.slice none 0 0)))])
 (.seq (.seq (.ops [zv 8 0, zi 9 (.nilck (.t 8)), zi 10 (.lea (.t 9) 0), zi 11 (.ld (.t 10) none), zc 12 (.f 87) [(.t 11)], zi 13 (.lenS (.t 12)), zi 14 (.val (.c (.int .i64 0)))])
 (.block 0 (.loop (.seq (.ops [zi 15 (.bin .lss (.t 14) (.t 13))])
 (.seq (.cond (.t 15)
 .skip
 (.exit 0))
 (.seq (.block 1 (.seq (.ops [zi 16 (.idxA (.t 12) (.t 14) 1), zi 17 (.ld (.t 16) none), zv 5 17])
 (.seq (.ops [zv 19 0, zi 20 (.nilck (.t 19)), zi 21 (.lea (.t 20) 0), zi 22 (.ld (.t 21) none), zv 23 5, zc 24 (.f 88) [(.t 22), (.t 23)], zv 18 24, zi 25 (.ext (.t 18) 0), zi 26 (.ext (.t 18) 1), zi 6 (.alloc [(.int .i64 0), (.int .u64 0), (.int .i64 0), (.int .u64 0), (.int .i64 0), (.int .u64 0), (.int .u64 0), (.int .u64 0), (.int .i64 0)]), zs (.st (.t 6) (.t 25) 9), zv 7 26])
 (.ops [zv 27 3, zi 28 (.ld (.t 6) (some 9)), zi 29 (.gen (.buildSlice 34 1 #[(0, (.tmp 28))])), zi 30 (.gen (.call ⟨.builtin .append, #[(.tmp 27), (.tmp 29)], #[34, 34]⟩)), zv 3 30]))))
 (.ops [zi 31 (.bin .add (.t 14) (.c (.int .i64 1))), zv 14 31])))))))
 (.seq (.ops [zv 32 3, zv 2 32])
 .ret))))
theorem fm35 (prim : PrimF) (h : prim 35 = none) : FnM (tE prim) 35 m35 [(.t 2)] 1 :=
 ⟨h, _, _, rfl, rfl, by kernel_rfl, by kernel_rfl, by decide⟩

/-- (*mooring/scion.Table).All -/
noncomputable def m36 : MC :=
 (.seq (.ops [zi 2 (.val (.c (.slice none 0 0)))])
 (.seq (.ops [zi 3 (.val (.c (.slice none 0 0)))])
 (.seq (.seq (.ops [zv 8 0, zi 9 (.nilck (.t 8)), zi 10 (.lea (.t 9) 23), zi 11 (.ld (.t 10) none), zc 12 (.f 89) [(.t 11)], zi 13 (.lenS (.t 12)), zi 14 (.val (.c (.int .i64 0)))])
 (.block 0 (.loop (.seq (.ops [zi 15 (.bin .lss (.t 14) (.t 13))])
 (.seq (.cond (.t 15)
 .skip
 (.exit 0))
 (.seq (.block 1 (.seq (.ops [zi 16 (.idxA (.t 12) (.t 14) 1), zi 17 (.ld (.t 16) none), zv 5 17])
 (.seq (.ops [zv 19 0, zi 20 (.nilck (.t 19)), zi 21 (.lea (.t 20) 23), zi 22 (.ld (.t 21) none), zv 23 5, zc 24 (.f 90) [(.t 22), (.t 23)], zv 18 24, zi 25 (.ext (.t 18) 0), zi 26 (.ext (.t 18) 1), zi 6 (.alloc [(.int .u64 0), (.int .i64 0), (.bool false), (.int .u64 0), (.int .u64 0), (.int .i64 0)]), zs (.st (.t 6) (.t 25) 6), zv 7 26])
 (.ops [zv 27 3, zi 28 (.ld (.t 6) (some 6)), zi 29 (.gen (.buildSlice 35 1 #[(0, (.tmp 28))])), zi 30 (.gen (.call ⟨.builtin .append, #[(.tmp 27), (.tmp 29)], #[35, 35]⟩)), zv 3 30]))))
 (.ops [zi 31 (.bin .add (.t 14) (.c (.int .i64 1))), zv 14 31])))))))
 (.seq (.ops [zv 32 3, zv 2 32])
 .ret))))
theorem fm36 (prim : PrimF) (h : prim 36 = none) : FnM (tE prim) 36 m36 [(.t 2)] 1 :=
 ⟨h, _, _, rfl, rfl, by kernel_rfl, by kernel_rfl, by decide⟩

/-- (*mooring/caller.Table).All -/
noncomputable def m37 : MC :=
 (.seq (.ops [zi 2 (.val (.c (.slice none 0 0)))])
 (.seq (.ops [zi 3 (.val (.c (.slice none 0 0)))])
 (.seq (.seq (.ops [zv 8 0, zi 9 (.nilck (.t 8)), zi 10 (.lea (.t 9) 25), zi 11 (.ld (.t 10) none), zc 12 (.f 91) [(.t 11)], zi 13 (.lenS (.t 12)), zi 14 (.val (.c (.int .i64 0)))])
 (.block 0 (.loop (.seq (.ops [zi 15 (.bin .lss (.t 14) (.t 13))])
 (.seq (.cond (.t 15)
 .skip
 (.exit 0))
 (.seq (.block 1 (.seq (.ops [zi 16 (.idxA (.t 12) (.t 14) 1), zi 17 (.ld (.t 16) none), zv 5 17])
 (.seq (.ops [zv 19 0, zi 20 (.nilck (.t 19)), zi 21 (.lea (.t 20) 25), zi 22 (.ld (.t 21) none), zv 23 5, zc 24 (.f 92) [(.t 22), (.t 23)], zv 18 24, zi 25 (.ext (.t 18) 0), zi 26 (.ext (.t 18) 1), zi 6 (.alloc [(.int .i64 0), (.int .u64 0), (.int .i64 0), (.int .i64 0), (.int .i64 0), (.int .u64 0), (.slice none 0 0), (.int .u64 0), (.int .i64 0), (.int .i64 0), (.slice none 0 0), (.int .u64 0), (.int .u64 0), (.int .u64 0), (.int .u64 0)]), zs (.st (.t 6) (.t 25) 15), zv 7 26])
 (.ops [zv 27 3, zi 28 (.ld (.t 6) (some 15)), zc 29 (.f 93) [(.t 28)], zi 30 (.gen (.buildSlice 37 1 #[(0, (.tmp 29))])), zi 31 (.gen (.call ⟨.builtin .append, #[(.tmp 27), (.tmp 30)], #[37, 37]⟩)), zv 3 31]))))
 (.ops [zi 32 (.bin .add (.t 14) (.c (.int .i64 1))), zv 14 32])))))))
 (.seq (.ops [zv 33 3, zv 2 33])
 .ret))))
theorem fm37 (prim : PrimF) (h : prim 37 = none) : FnM (tE prim) 37 m37 [(.t 2)] 1 :=
 ⟨h, _, _, rfl, rfl, by kernel_rfl, by kernel_rfl, by decide⟩

/-- (*mooring/server.Table).All -/
noncomputable def m38 : MC :=
 (.seq (.ops [zi 2 (.val (.c (.slice none 0 0)))])
 (.seq (.ops [zi 3 (.val (.c (.slice none 0 0)))])
 (.seq (.seq (.ops [zv 8 0, zi 9 (.nilck (.t 8)), zi 10 (.lea (.t 9) 24), zi 11 (.ld (.t 10) none), zc 12 (.f 94) [(.t 11)], zi 13 (.lenS (.t 12)), zi 14 (.val (.c (.int .i64 0)))])
 (.block 0 (.loop (.seq (.ops [zi 15 (.bin .lss (.t 14) (.t 13))])
 (.seq (.cond (.t 15)
 .skip
 (.exit 0))
 (.seq (.block 1 (.seq (.ops [zi 16 (.idxA (.t 12) (.t 14) 1), zi 17 (.ld (.t 16) none), zv 5 17])
 (.seq (.ops [zv 19 0, zi 20 (.nilck (.t 19)), zi 21 (.lea (.t 20) 24), zi 22 (.ld (.t 21) none), zv 23 5, zc 24 (.f 95) [(.t 22), (.t 23)], zv 18 24, zi 25 (.ext (.t 18) 0), zi 26 (.ext (.t 18) 1), zi 6 (.alloc [(.int .i64 0), (.int .u64 0), (.int .i64 0), (.int .i64 0), (.int .i64 0), (.int .u64 0), (.slice none 0 0), (.int .u64 0), (.int .i64 0), (.int .i64 0), (.slice none 0 0), (.int .u64 0), (.int .u64 0), (.int .u64 0)]), zs (.st (.t 6) (.t 25) 14), zv 7 26])
 (.ops [zv 27 3, zi 28 (.ld (.t 6) (some 14)), zc 29 (.f 96) [(.t 28)], zi 30 (.gen (.buildSlice 38 1 #[(0, (.tmp 29))])), zi 31 (.gen (.call ⟨.builtin .append, #[(.tmp 27), (.tmp 30)], #[38, 38]⟩)), zv 3 31]))))
 (.ops [zi 32 (.bin .add (.t 14) (.c (.int .i64 1))), zv 14 32])))))))
 (.seq (.ops [zv 33 3, zv 2 33])
 .ret))))
theorem fm38 (prim : PrimF) (h : prim 38 = none) : FnM (tE prim) 38 m38 [(.t 2)] 1 :=
 ⟨h, _, _, rfl, rfl, by kernel_rfl, by kernel_rfl, by decide⟩

/-- (*mooring/node.Node).at -/
noncomputable def m39 : MC :=
 (.seq (.ops [zi 6 (.alloc [(.int .i64 0), (.int .u64 0)])])
 (.seq (.ops [zv 10 0, zi 11 (.nilck (.t 10)), zi 12 (.lea (.t 11) 1), zi 13 (.ld (.t 12) none), zv 14 1, zv 15 2, zc 16 (.f 97) [(.t 13), (.t 14), (.t 15)], zv 9 16, zi 17 (.ext (.t 9) 0), zi 18 (.ext (.t 9) 1), zi 7 (.alloc [(.int .i64 0), (.int .u64 0)]), zs (.st (.t 7) (.t 17) 2), zv 8 18])
 (.seq (.ops [zi 19 (.ld (.t 7) (some 2)), zs (.st (.t 6) (.t 19) 2)])
 .ret)))
theorem fm39 (prim : PrimF) (h : prim 39 = none) : FnM (tE prim) 39 m39 [(.cell 6 (some 2))] 3 :=
 ⟨h, _, _, rfl, rfl, by kernel_rfl, by kernel_rfl, by decide⟩

/-- (*mooring/heap.Heap).Object -/
noncomputable def m41 : MC :=
 (.seq (.ops [zi 4 (.alloc [(.int .u64 0), (.int .i64 0), (.slice none 0 0), (.slice none 0 0), (.int .i64 0)]), zi 5 (.val (.c (.bool false)))])
 (.seq (.ops [zv 7 0, zi 8 (.nilck (.t 7)), zi 9 (.lea (.t 8) 4), zi 10 (.ld (.t 9) none), zv 11 1, zi 12 (.gen (.lookup 192 (.tmp 10) (.tmp 11) false)), zv 6 12])
 (.seq (.seq (.ops [zv 13 6, zi 14 (.eqv 262 false (.t 13) (.c (.pointer none)))])
 (.cond (.t 14)
 (.seq (.ops [zi 15 (.bld [(.int .u64 0), (.int .i64 0), (.slice none 0 0), (.slice none 0 0), (.int .i64 0)] []), zs (.st (.t 4) (.t 15) 5), zi 5 (.val (.c (.bool false)))])
 .ret)
 .skip))
 (.seq (.draw 24 [zj 16 0 (.val (.t 1)), zj 17 1 (.val (.t 6)), zj 18 2 (.nilck (.t 17)), zj 19 3 (.lea (.t 18) 0), zj 20 4 (.ld (.t 19) none), zj 22 6 (.val (.t 6)), zj 23 7 (.nilck (.t 22)), zj 24 8 (.lea (.t 23) 1), zj 25 9 (.ld (.t 24) none), zj 28 12 (.val (.t 6)), zj 29 13 (.nilck (.t 28)), zj 30 14 (.lea (.t 29) 2), zj 31 15 (.ld (.t 30) none), zj 33 17 (.val (.t 6)), zj 34 18 (.nilck (.t 33)), zj 35 19 (.lea (.t 34) 3), zj 36 20 (.ld (.t 35) none), zj 21 5 (.gen (.buildSlice 55 0 #[])), zj 26 10 (.gen (.call ⟨.builtin .append, #[(.tmp 21), (.tmp 25)], #[55, 55]⟩)), ⟨none, (.chk (.ld (.t 19) none) 20), none, none⟩, ⟨none, (.chk (.ld (.t 30) none) 31), none, none⟩, ⟨none, (.chk (.ld (.t 35) none) 36), none, none⟩, zj 27 11 (.gen (.buildSlice 36 0 #[])), zj 32 16 (.gen (.call ⟨.builtin .append, #[(.tmp 27), (.tmp 31)], #[36, 36]⟩)), ⟨none, (.chk (.ld (.t 19) none) 20), none, none⟩, ⟨none, (.chk (.ld (.t 35) none) 36), none, none⟩, zj 37 21 (.bld [(.int .u64 0), (.int .i64 0), (.slice none 0 0), (.slice none 0 0), (.int .i64 0)] [(0, 1, (.t 16)), (1, 1, (.t 20)), (2, 1, (.t 26)), (3, 1, (.t 32)), (4, 1, (.t 36))]), zq 22 (.st (.t 4) (.t 37) 5), zj 5 23 (.val (.c (.bool true)))])
 .ret))))
theorem fm41 (prim : PrimF) (h : prim 41 = none) : FnM (tE prim) 41 m41 [(.cell 4 (some 5)), (.t 5)] 2 :=
 ⟨h, _, _, rfl, rfl, by kernel_rfl, by kernel_rfl, by decide⟩

/-- (*mooring/scion.Table).Buried -/
noncomputable def m42 : MC :=
 (.seq (.ops [zi 4 (.val (.c (.bool false)))])
 (.seq (.ops [zv 5 0, zi 6 (.nilck (.t 5)), zi 7 (.lea (.t 6) 24), zi 8 (.ld (.t 7) none), zv 9 1, zi 10 (.gen (.lookup 231 (.tmp 8) (.tmp 9) false)), zi 11 (.bin .gtr (.t 10) (.c (.int .i64 0))), zv 4 11])
 .ret))
theorem fm42 (prim : PrimF) (h : prim 42 = none) : FnM (tE prim) 42 m42 [(.t 4)] 2 :=
 ⟨h, _, _, rfl, rfl, by kernel_rfl, by kernel_rfl, by decide⟩

/-- (*mooring/trace.Trace).Count -/
noncomputable def m43 : MC :=
 (.seq (.ops [zi 2 (.val (.c (.int .u64 0))), zi 3 (.val (.c (.int .i64 0)))])
 (.seq (.draw 10 [zj 4 0 (.val (.t 0)), zj 5 1 (.nilck (.t 4)), zj 6 2 (.lea (.t 5) 23), zj 7 3 (.ld (.t 6) none), zj 8 4 (.val (.t 0)), zj 9 5 (.nilck (.t 8)), zj 10 6 (.lea (.t 9) 24), zj 11 7 (.ld (.t 10) none), zj 2 8 (.val (.t 7)), zj 3 9 (.val (.t 11))])
 .ret))
theorem fm43 (prim : PrimF) (h : prim 43 = none) : FnM (tE prim) 43 m43 [(.t 2), (.t 3)] 1 :=
 ⟨h, _, _, rfl, rfl, by kernel_rfl, by kernel_rfl, by decide⟩

/-- mooring/mooringhand.Pick -/
noncomputable def m57 : MC :=
 (.seq (.ops [zi 4 (.val (.c (.int .i64 0)))])
 (.seq (.ops [zv 5 0, zv 6 1, zi 7 (.bin .rem (.t 5) (.t 6)), zv 0 7])
 (.seq (.seq (.ops [zv 8 0, zi 9 (.bin .lss (.t 8) (.c (.int .i64 0)))])
 (.cond (.t 9)
 (.ops [zv 10 0, zv 11 1, zi 12 (.bin .add (.t 10) (.t 11)), zv 0 12])
 .skip))
 (.seq (.ops [zv 13 0, zv 4 13])
 .ret))))
theorem fm57 (prim : PrimF) (h : prim 57 = none) : FnM (tE prim) 57 m57 [(.t 4)] 2 :=
 ⟨h, _, _, rfl, rfl, by kernel_rfl, by kernel_rfl, by decide⟩

/-- (*mooring/node.Node).named -/
noncomputable def m58 : MC :=
 (.seq (.ops [zi 3 (.box (.t 0)), zi 5 (.box (.t 2)), zi 6 (.val (.c (.bool false)))])
 (.seq (.ops [zi 12 (.lea (.t 5) 0), zi 13 (.ld (.t 12) none), zc 14 (.f 103) [(.t 13)], zv 11 14, zi 15 (.ext (.t 11) 0), zi 16 (.ext (.t 11) 1), zi 17 (.ext (.t 11) 2), zv 7 15, zv 8 16, zv 9 17])
 (.seq (.ops [zi 18 (.gen (.makeFunc (.func 104) #[] #[(.tmp 3)])), zv 10 18])
 (.seq (.ops [zv 19 1, zi 20 (.bin .geq (.t 19) (.c (.int .i64 0))), zv 21 20, zg 22 21 true (.val (.t 1)), zg 23 21 true (.ld (.t 3) none), zg 24 21 true (.nilck (.t 23)), zg 25 21 true (.lea (.t 24) 3), zg 26 21 true (.lea (.t 25) 1), zg 27 21 true (.ld (.t 26) none), zg 28 21 true (.bin .lss (.t 22) (.t 27)), zi 29 (.pick (.t 21) (.t 28) (.c (.bool false))), zv 30 29, zg 31 30 true (.lea (.t 5) 0), zg 32 30 true (.ld (.t 31) none), zg 33 30 true (.bin .geq (.t 32) (.c (.int .i64 1))), zi 34 (.pick (.t 30) (.t 33) (.c (.bool false))), zv 35 34, zg 36 35 true (.lea (.t 5) 0), zg 37 35 true (.ld (.t 36) none), zg 38 35 true (.bin .leq (.t 37) (.c (.int .i64 15))), zi 39 (.pick (.t 35) (.t 38) (.c (.bool false))), zv 40 39, zg 41 40 true (.val (.t 7)), zg 42 40 true (.not (.t 41)), zg 43 40 true (.val (.t 42)), zg 44 43 false (.val (.t 10)), zg 45 43 false (.lea (.t 5) 1), zg 46 43 false (.ld (.t 45) none), ⟨(some 47), (.call (.t 44) [(.t 46)]), (some (43, false)), none⟩, zg 48 40 true (.pick (.t 43) (.c (.bool true)) (.t 47)), zi 49 (.pick (.t 40) (.t 48) (.c (.bool false))), zv 50 49, zg 51 50 true (.val (.t 8)), zg 52 50 true (.not (.t 51)), zg 53 50 true (.val (.t 52)), zg 54 53 false (.val (.t 10)), zg 55 53 false (.lea (.t 5) 2), zg 56 53 false (.ld (.t 55) none), ⟨(some 57), (.call (.t 54) [(.t 56)]), (some (53, false)), none⟩, zg 58 50 true (.pick (.t 53) (.c (.bool true)) (.t 57)), zg 59 50 true (.val (.t 58)), zg 60 59 false (.val (.t 9)), zg 61 59 false (.val (.t 60)), zg 62 61 true (.lea (.t 5) 2), zg 63 61 true (.ld (.t 62) none), zg 64 61 true (.bin .eql (.t 63) (.c (.int .i64 (-1)))), zg 65 59 false (.pick (.t 61) (.t 64) (.c (.bool false))), zg 66 50 true (.pick (.t 59) (.c (.bool true)) (.t 65)), zi 67 (.pick (.t 50) (.t 66) (.c (.bool false))), zv 6 67])
 .ret))))
theorem fm58 (prim : PrimF) (h : prim 58 = none) : FnM (tE prim) 58 m58 [(.t 6)] 3 :=
 ⟨h, _, _, rfl, rfl, by kernel_rfl, by kernel_rfl, by decide⟩

/-- mooring/node.why -/
noncomputable def m59 : MC :=
 (.seq (.ops [zi 2 (.alloc [(.int .i64 0), (.int .i64 0), (.int .u64 0), (.int .u64 0), (.int .i64 0), (.int .u64 0)]), zi 3 (.val (.c (.slice none 0 0)))])
 (.seq (.ops [zv 4 0, zi 5 (.bld [(.int .i64 0), (.int .i64 0), (.int .u64 0), (.int .u64 0), (.int .i64 0), (.int .u64 0)] [(0, 1, (.t 4))]), zs (.st (.t 2) (.t 5) 6), zi 3 (.val (.c (.slice none 0 0)))])
 .ret))
theorem fm59 (prim : PrimF) (h : prim 59 = none) : FnM (tE prim) 59 m59 [(.cell 2 (some 6)), (.t 3)] 1 :=
 ⟨h, _, _, rfl, rfl, by kernel_rfl, by kernel_rfl, by decide⟩

/-- (*mooring/heap.Heap).Make -/
noncomputable def m60 : MC :=
 (.seq (.ops [zi 6 (.val (.c (.int .u64 0))), zi 7 (.val (.c (.int .i64 0)))])
 (.seq (.block 0 (.seq (.ops [zv 11 1, zc 12 (.f 105) [(.t 11)], zi 13 (.not (.t 12)), zv 14 13, zg 15 14 false (.val (.t 2)), ⟨(some 16), (.call (.f 105) [(.t 15)]), (some (14, false)), none⟩, zg 17 14 false (.not (.t 16)), zi 18 (.pick (.t 14) (.c (.bool true)) (.t 17)), zv 10 18])
 (.cond (.t 10)
 (.seq (.ops [zi 6 (.val (.c (.int .u64 0))), zi 7 (.val (.c (.int .i64 1)))])
 .ret)
 (.seq (.draw 11 [zj 20 0 (.val (.t 0)), zj 21 1 (.nilck (.t 20)), zj 22 2 (.lea (.t 21) 4), zj 23 3 (.ld (.t 22) none), zj 24 4 (.gen (.call ⟨.builtin .len, #[(.tmp 23)], #[192]⟩)), zj 25 5 (.val (.t 0)), zj 26 6 (.nilck (.t 25)), zj 27 7 (.lea (.t 26) 1), zj 28 8 (.ld (.t 27) none), zj 29 9 (.bin .geq (.t 24) (.t 28)), zj 19 10 (.val (.t 29))])
 (.cond (.t 19)
 (.seq (.ops [zi 6 (.val (.c (.int .u64 0))), zi 7 (.val (.c (.int .i64 6)))])
 .ret)
 (.seq (.ops [zv 31 0, zi 32 (.nilck (.t 31)), zi 33 (.lea (.t 32) 2), zi 34 (.ld (.t 33) none), zi 35 (.bin .eql (.t 34) (.c (.int .u64 72057594037927935))), zv 30 35])
 (.cond (.t 30)
 (.seq (.ops [zi 6 (.val (.c (.int .u64 0))), zi 7 (.val (.c (.int .i64 7)))])
 .ret)
 .skip)))))))
 (.seq (.ops [zv 37 0, zi 38 (.nilck (.t 37)), zi 39 (.lea (.t 38) 3), zi 40 (.ld (.t 39) none), zv 41 1, zi 42 (.bin .add (.c (.int .i64 1)) (.t 41)), zv 43 2, zi 44 (.bin .add (.t 42) (.t 43)), zc 45 (.f 106) [(.t 40), (.t 44)], zv 36 45, zi 46 (.ext (.t 36) 0), zi 47 (.ext (.t 36) 1), zv 8 46, zv 9 47])
 (.seq (.seq (.ops [zv 48 9, zi 49 (.bin .neq (.t 48) (.c (.int .i64 0)))])
 (.cond (.t 49)
 (.seq (.ops [zv 50 9, zi 6 (.val (.c (.int .u64 0))), zv 7 50])
 .ret)
 .skip))
 (.seq (.ops [zv 51 0, zi 52 (.nilck (.t 51)), zi 53 (.lea (.t 52) 2), zi 54 (.ld (.t 53) none), zi 55 (.bin .add (.t 54) (.c (.int .u64 1))), zi 56 (.nilck (.t 51)), zi 57 (.lea (.t 56) 2), zs (.st (.t 57) (.t 55) 1)])
 (.seq (.draw 16 [zj 58 0 (.val (.t 0)), zj 59 1 (.nilck (.t 58)), zj 60 2 (.lea (.t 59) 4), zj 61 3 (.ld (.t 60) none), zj 62 4 (.val (.t 0)), zj 63 5 (.nilck (.t 62)), zj 64 6 (.lea (.t 63) 2), zj 65 7 (.ld (.t 64) none), zj 66 8 (.val (.t 8)), zj 67 9 (.val (.t 1)), zj 69 11 (.val (.t 2)), zj 68 10 (.gen (.makeSlice 55 (.tmp 67) (.tmp 67))), zj 70 12 (.gen (.makeSlice 36 (.tmp 69) (.tmp 69))), zj 71 13 (.bld [(.int .i64 0), (.slice none 0 0), (.slice none 0 0), (.int .i64 0)] [(0, 1, (.t 66)), (1, 1, (.t 68)), (2, 1, (.t 70))]), zj 72 14 (.box (.t 71)), zq 15 (.gen (.mapUpdate 192 (.tmp 61) (.tmp 65) (.tmp 72)))])
 (.seq (.ops [zv 73 0, zi 74 (.nilck (.t 73)), zi 75 (.lea (.t 74) 2), zi 76 (.ld (.t 75) none), zv 6 76, zi 7 (.val (.c (.int .i64 0)))])
 .ret)))))))
theorem fm60 (prim : PrimF) (h : prim 60 = none) : FnM (tE prim) 60 m60 [(.t 6), (.t 7)] 3 :=
 ⟨h, _, _, rfl, rfl, by kernel_rfl, by kernel_rfl, by decide⟩

/-- (*mooring/cycle.Cycle).Born -/
noncomputable def m61 : MC :=
 (.block 0 (.seq (.ops [zv 13 0, zc 14 (.f 107) [(.t 13)], zi 15 (.not (.t 14)), zv 16 15, zg 17 16 false (.val (.t 0)), zg 18 16 false (.nilck (.t 17)), zg 19 16 false (.lea (.t 18) 0), zg 20 16 false (.ld (.t 19) none), zg 21 16 false (.val (.t 1)), ⟨(some 22), (.call (.f 108) [(.t 20), (.t 21)]), (some (16, false)), none⟩, zg 23 16 false (.not (.t 22)), zi 24 (.pick (.t 16) (.c (.bool true)) (.t 23)), zv 12 24])
 (.cond (.t 12)
 .skip
 (.seq (.ops [zv 26 0, zc 27 (.f 34) [(.t 26)], zi 28 (.bin .eql (.t 27) (.c (.int .i64 1))), zv 25 28])
 (.cond (.t 25)
 (.draw 11 [zj 29 0 (.val (.t 0)), zj 30 1 (.nilck (.t 29)), zj 31 2 (.lea (.t 30) 2), zj 32 3 (.ld (.t 31) none), zj 33 4 (.val (.t 0)), zj 34 5 (.nilck (.t 33)), zj 35 6 (.lea (.t 34) 6), zj 36 7 (.ld (.t 35) none), zj 37 8 (.val (.t 2)), zj 38 9 (.bld [(.int .i64 0), (.int .u64 0)] [(0, 1, (.t 36)), (1, 1, (.t 37))]), zk 39 10 (.f 109) [(.t 32), (.t 38), (.c (.int .i64 0))]])
 (.ops [zv 6 0, zi 7 (.nilck (.t 6)), zi 8 (.lea (.t 7) 2), zi 9 (.ld (.t 8) none), zv 10 2, zc 11 (.f 110) [(.t 9), (.t 10)]]))))))
theorem fm61 (prim : PrimF) (h : prim 61 = none) : FnM (tE prim) 61 m61 [] 3 :=
 ⟨h, _, _, rfl, rfl, by kernel_rfl, by kernel_rfl, by decide⟩

/-- (*mooring/node.Node).hold -/
noncomputable def m62 : MC :=
 (.seq (.ops [zi 7 (.box (.t 3)), zi 8 (.alloc [(.int .i64 0), (.int .i64 0), (.int .u64 0), (.int .u64 0), (.int .i64 0), (.int .u64 0)])])
 (.seq (.draw 8 [zj 9 0 (.val (.t 0)), zj 10 1 (.nilck (.t 9)), zj 11 2 (.lea (.t 10) 1), zj 12 3 (.ld (.t 11) none), zj 13 4 (.val (.t 1)), zj 14 5 (.val (.t 2)), zj 15 6 (.ld (.t 7) (some 2)), zk 16 7 (.f 65) [(.t 12), (.t 13), (.t 14), (.t 15)]])
 (.seq (.ops [zi 17 (.ld (.t 7) (some 2)), zi 18 (.bld [(.int .i64 0), (.int .i64 0), (.int .u64 0), (.int .u64 0), (.int .i64 0), (.int .u64 0)] [(1, 2, (.t 17))]), zs (.st (.t 8) (.t 18) 6)])
 .ret)))
theorem fm62 (prim : PrimF) (h : prim 62 = none) : FnM (tE prim) 62 m62 [(.cell 8 (some 6))] 4 :=
 ⟨h, _, _, rfl, rfl, by kernel_rfl, by kernel_rfl, by decide⟩

/-- mooring/node.none -/
noncomputable def m63 : MC :=
 (.seq (.ops [zi 0 (.alloc [(.int .i64 0), (.int .u64 0)])])
 (.seq (.ops [zi 1 (.alloc [(.int .i64 0), (.int .u64 0)])])
 (.seq (.ops [zi 2 (.ld (.t 1) (some 2)), zs (.st (.t 0) (.t 2) 2)])
 .ret)))
theorem fm63 (prim : PrimF) (h : prim 63 = none) : FnM (tE prim) 63 m63 [(.cell 0 (some 2))] 0 :=
 ⟨h, _, _, rfl, rfl, by kernel_rfl, by kernel_rfl, by decide⟩

/-- (*mooring/node.Node).lapsed -/
noncomputable def m64 : MC :=
 (.seq (.ops [zi 3 (.box (.t 1)), zi 4 (.val (.c (.bool false)))])
 (.seq (.draw 24 [zj 5 0 (.ld (.t 3) (some 2)), zk 6 1 (.f 63) [], ⟨none, (.chk (.ld (.t 3) (some 2)) 5), none, none⟩, zj 7 2 (.eqv 54 true (.t 5) (.t 6)), zj 8 3 (.val (.t 7)), ⟨(some 9), (.i (.val (.t 0))), (some (8, true)), (some 4)⟩, ⟨(some 10), (.i (.ld (.t 3) (some 2))), (some (8, true)), (some 5)⟩, ⟨(some 11), (.call (.f 111) [(.t 9), (.t 10)]), (some (8, true)), (some 6)⟩, ⟨(some 12), (.i (.not (.t 11))), (some (8, true)), (some 7)⟩, zj 13 8 (.pick (.t 8) (.t 12) (.c (.bool false))), zj 14 9 (.val (.t 13)), ⟨(some 15), (.i (.val (.t 0))), (some (14, true)), (some 10)⟩, ⟨(some 16), (.i (.nilck (.t 15))), (some (14, true)), (some 11)⟩, ⟨(some 17), (.i (.lea (.t 16) 27)), (some (14, true)), (some 12)⟩, ⟨(some 18), (.i (.ld (.t 17) none)), (some (14, true)), (some 13)⟩, ⟨(some 19), (.i (.ld (.t 3) (some 2))), (some (14, true)), (some 14)⟩, ⟨(some 20), (.i (.val (.t 0))), (some (14, true)), (some 15)⟩, ⟨(some 21), (.i (.nilck (.t 20))), (some (14, true)), (some 16)⟩, ⟨(some 22), (.i (.lea (.t 21) 2)), (some (14, true)), (some 17)⟩, ⟨(some 23), (.i (.ld (.t 22) none)), (some (14, true)), (some 18)⟩, ⟨(some 24), (.call (.f 33) [(.t 23)]), (some (14, true)), (some 19)⟩, ⟨none, (.chk (.ld (.t 17) none) 18), (some (14, true)), none⟩, ⟨none, (.chk (.ld (.t 3) (some 2)) 19), (some (14, true)), none⟩, ⟨(some 25), (.call (.f 112) [(.t 18), (.t 19), (.t 24)]), (some (14, true)), (some 20)⟩, ⟨(some 26), (.i (.bin .neq (.t 25) (.c (.int .i64 2)))), (some (14, true)), (some 21)⟩, zj 27 22 (.pick (.t 14) (.t 26) (.c (.bool false))), zj 4 23 (.val (.t 27))])
 .ret))
theorem fm64 (prim : PrimF) (h : prim 64 = none) : FnM (tE prim) 64 m64 [(.t 4)] 2 :=
 ⟨h, _, _, rfl, rfl, by kernel_rfl, by kernel_rfl, by decide⟩

/-- (*mooring/roots.Roots).Set -/
noncomputable def m65 : MC :=
 (.seq (.ops [zi 7 (.box (.t 3)), zi 8 (.val (.c (.bool false)))])
 (.seq (.ops [zi 10 (.ld (.t 7) (some 2)), zi 11 (.bld [(.int .i64 0), (.int .u64 0)] []), zi 12 (.eqv 54 false (.t 10) (.t 11)), zv 13 12, zg 14 13 false (.lea (.t 7) 0), zg 15 13 false (.ld (.t 14) none), zg 16 13 false (.bin .geq (.t 15) (.c (.int .i64 1))), zg 17 13 false (.val (.t 16)), zg 18 17 true (.lea (.t 7) 0), zg 19 17 true (.ld (.t 18) none), zg 20 17 true (.bin .leq (.t 19) (.c (.int .i64 64))), zg 21 13 false (.pick (.t 17) (.t 20) (.c (.bool false))), zg 22 13 false (.val (.t 21)), zg 23 22 true (.lea (.t 7) 1), zg 24 22 true (.ld (.t 23) none), zg 25 22 true (.bin .geq (.t 24) (.c (.int .u64 1))), zg 26 13 false (.pick (.t 22) (.t 25) (.c (.bool false))), zg 27 13 false (.val (.t 26)), zg 28 27 true (.lea (.t 7) 1), zg 29 27 true (.ld (.t 28) none), zg 30 27 true (.bin .leq (.t 29) (.c (.int .u64 72057594037927935))), zg 31 13 false (.pick (.t 27) (.t 30) (.c (.bool false))), zi 32 (.pick (.t 13) (.c (.bool true)) (.t 31)), zv 9 32])
 (.seq (.seq (.ops [zv 33 0, zv 34 1, zv 35 2, zc 36 (.f 113) [(.t 33), (.t 34), (.t 35)], zi 37 (.not (.t 36)), zv 38 37, zg 39 38 false (.val (.t 9)), zg 40 38 false (.not (.t 39)), zi 41 (.pick (.t 38) (.c (.bool true)) (.t 40))])
 (.cond (.t 41)
 (.seq (.ops [zi 8 (.val (.c (.bool false)))])
 .ret)
 .skip))
 (.seq (.draw 11 [zj 42 0 (.val (.t 0)), zj 43 1 (.nilck (.t 42)), zj 44 2 (.lea (.t 43) 0), zj 45 3 (.ld (.t 44) none), zj 46 4 (.val (.t 1)), zj 47 5 (.idxA (.t 45) (.t 46) 1), zj 48 6 (.ld (.t 47) none), zj 49 7 (.val (.t 2)), zj 50 8 (.ld (.t 7) (some 2)), zj 51 9 (.idxA (.t 48) (.t 49) 2), zq 10 (.st (.t 51) (.t 50) 2)])
 (.seq (.ops [zi 8 (.val (.c (.bool true)))])
 .ret)))))
theorem fm65 (prim : PrimF) (h : prim 65 = none) : FnM (tE prim) 65 m65 [(.t 8)] 4 :=
 ⟨h, _, _, rfl, rfl, by kernel_rfl, by kernel_rfl, by decide⟩

/-- (*mooring/node.Node).own -/
noncomputable def m66 : MC :=
 (.seq (.ops [zi 7 (.box (.t 2)), zi 8 (.box (.t 3)), zi 9 (.box (.t 4)), zi 10 (.alloc [(.int .i64 0), (.int .i64 0), (.int .u64 0), (.int .u64 0), (.int .i64 0), (.int .u64 0)])])
 (.seq (.ops [zi 18 (.ld (.t 8) (some 2)), zi 11 (.alloc [(.int .i64 0), (.int .u64 0)]), zs (.st (.t 11) (.t 18) 2)])
 (.seq (.seq (.ops [zi 19 (.lea (.t 7) 0), zi 20 (.ld (.t 19) none), zi 21 (.bin .eql (.t 20) (.c (.int .i64 4)))])
 (.cond (.t 21)
 (.ops [zi 22 (.ld (.t 9) (some 2)), zs (.st (.t 11) (.t 22) 2)])
 .skip))
 (.seq (.seq (.draw 9 [zj 23 0 (.ld (.t 11) (some 2)), zk 24 1 (.f 63) [], ⟨none, (.chk (.ld (.t 11) (some 2)) 23), none, none⟩, zj 25 2 (.eqv 54 false (.t 23) (.t 24)), zj 26 3 (.val (.t 25)), ⟨(some 27), (.i (.val (.t 0))), (some (26, false)), (some 4)⟩, ⟨(some 28), (.i (.ld (.t 11) (some 2))), (some (26, false)), (some 5)⟩, ⟨(some 29), (.call (.f 111) [(.t 27), (.t 28)]), (some (26, false)), (some 6)⟩, ⟨(some 30), (.i (.not (.t 29))), (some (26, false)), (some 7)⟩, zj 31 8 (.pick (.t 26) (.c (.bool true)) (.t 30))])
 (.cond (.t 31)
 (.seq (.ops [zi 32 (.bld [(.int .i64 0), (.int .i64 0), (.int .u64 0), (.int .u64 0), (.int .i64 0), (.int .u64 0)] [(0, 1, (.c (.int .i64 5)))]), zs (.st (.t 10) (.t 32) 6)])
 .ret)
 .skip))
 (.seq (.seq (.ops [zi 33 (.lea (.t 7) 0), zi 34 (.ld (.t 33) none)])
 (.block 0 (.seq (.ops [zi 36 (.bin .eql (.t 34) (.c (.int .i64 4))), zv 35 36])
 (.cond (.t 35)
 (.seq (.draw 15 [zj 38 0 (.val (.t 0)), zj 39 1 (.nilck (.t 38)), zj 40 2 (.lea (.t 39) 0), zj 41 3 (.ld (.t 40) none), zj 42 4 (.lea (.t 11) 1), zj 43 5 (.ld (.t 42) none), zj 44 6 (.lea (.t 7) 3), zj 45 7 (.ld (.t 44) none), zk 46 8 (.f 114) [(.t 41), (.t 43), (.t 45)], zj 37 9 (.val (.t 46)), zj 47 10 (.ext (.t 37) 0), zj 48 11 (.ext (.t 37) 1), zj 12 12 (.alloc [(.int .i64 0), (.int .u64 0)]), zq 13 (.st (.t 12) (.t 47) 2), zj 13 14 (.val (.t 48))])
 (.seq (.seq (.ops [zv 49 13, zi 50 (.bin .neq (.t 49) (.c (.int .i64 0)))])
 (.cond (.t 50)
 (.seq (.ops [zv 51 13, zi 52 (.bld [(.int .i64 0), (.int .i64 0), (.int .u64 0), (.int .u64 0), (.int .i64 0), (.int .u64 0)] [(0, 1, (.t 51))]), zs (.st (.t 10) (.t 52) 6)])
 .ret)
 .skip))
 (.seq (.ops [zv 53 0, zv 54 1, zi 55 (.lea (.t 7) 1), zi 56 (.ld (.t 55) none), zi 57 (.ld (.t 12) (some 2)), zc 58 (.f 62) [(.t 53), (.t 54), (.t 56), (.t 57)], zs (.st (.t 10) (.t 58) 6)])
 .ret)))
 (.seq (.ops [zi 60 (.bin .eql (.t 34) (.c (.int .i64 6))), zv 59 60])
 (.cond (.t 59)
 (.seq (.draw 14 [zj 62 0 (.val (.t 0)), zj 63 1 (.nilck (.t 62)), zj 64 2 (.lea (.t 63) 0), zj 65 3 (.ld (.t 64) none), zj 66 4 (.lea (.t 11) 1), zj 67 5 (.ld (.t 66) none), zj 68 6 (.lea (.t 7) 3), zj 69 7 (.ld (.t 68) none), zk 70 8 (.f 115) [(.t 65), (.t 67), (.t 69)], zj 61 9 (.val (.t 70)), zj 71 10 (.ext (.t 61) 0), zj 72 11 (.ext (.t 61) 1), zj 14 12 (.val (.t 71)), zj 15 13 (.val (.t 72))])
 (.seq (.ops [zv 73 15, zv 74 14, zi 75 (.bld [(.int .i64 0), (.int .i64 0), (.int .u64 0), (.int .u64 0), (.int .i64 0), (.int .u64 0)] [(0, 1, (.t 73)), (3, 1, (.t 74))]), zs (.st (.t 10) (.t 75) 6)])
 .ret))
 (.seq (.ops [zi 77 (.bin .eql (.t 34) (.c (.int .i64 7))), zv 76 77])
 (.cond (.t 76)
 (.seq (.draw 13 [zj 78 0 (.val (.t 0)), zj 79 1 (.nilck (.t 78)), zj 80 2 (.lea (.t 79) 0), zj 81 3 (.ld (.t 80) none), zj 82 4 (.lea (.t 11) 1), zj 83 5 (.ld (.t 82) none), zj 84 6 (.lea (.t 7) 3), zj 85 7 (.ld (.t 84) none), zj 86 8 (.lea (.t 7) 7), zj 87 9 (.ld (.t 86) none), zk 88 10 (.f 116) [(.t 81), (.t 83), (.t 85), (.t 87)], zj 89 11 (.bld [(.int .i64 0), (.int .i64 0), (.int .u64 0), (.int .u64 0), (.int .i64 0), (.int .u64 0)] [(0, 1, (.t 88))]), zq 12 (.st (.t 10) (.t 89) 6)])
 .ret)
 .skip))))))))
 (.seq (.seq (.ops [zv 90 0, zi 91 (.ld (.t 9) (some 2)), zc 92 (.f 64) [(.t 90), (.t 91)]])
 (.cond (.t 92)
 (.seq (.ops [zi 93 (.bld [(.int .i64 0), (.int .i64 0), (.int .u64 0), (.int .u64 0), (.int .i64 0), (.int .u64 0)] [(0, 1, (.c (.int .i64 4)))]), zs (.st (.t 10) (.t 93) 6)])
 .ret)
 .skip))
 (.seq (.draw 16 [zj 95 0 (.val (.t 0)), zj 96 1 (.nilck (.t 95)), zj 97 2 (.lea (.t 96) 0), zj 98 3 (.ld (.t 97) none), zj 99 4 (.lea (.t 11) 1), zj 100 5 (.ld (.t 99) none), zj 101 6 (.lea (.t 7) 3), zj 102 7 (.ld (.t 101) none), zj 103 8 (.ld (.t 9) (some 2)), zk 104 9 (.f 117) [(.t 98), (.t 100), (.t 102), (.t 103)], zj 94 10 (.val (.t 104)), zj 105 11 (.ext (.t 94) 0), zj 106 12 (.ext (.t 94) 1), zj 16 13 (.alloc [(.int .i64 0), (.int .u64 0)]), zq 14 (.st (.t 16) (.t 105) 2), zj 17 15 (.val (.t 106))])
 (.seq (.seq (.ops [zv 107 17, zi 108 (.bin .eql (.t 107) (.c (.int .i64 0)))])
 (.cond (.t 108)
 (.draw 8 [zj 109 0 (.val (.t 0)), zj 110 1 (.nilck (.t 109)), zj 111 2 (.lea (.t 110) 26), zj 112 3 (.ld (.t 111) none), zj 113 4 (.val (.t 1)), zj 114 5 (.ld (.t 16) (some 2)), zj 115 6 (.ld (.t 9) (some 2)), zk 116 7 (.f 118) [(.t 112), (.t 113), (.t 114), (.t 115)]])
 .skip))
 (.seq (.ops [zv 117 17, zi 118 (.bld [(.int .i64 0), (.int .i64 0), (.int .u64 0), (.int .u64 0), (.int .i64 0), (.int .u64 0)] [(0, 1, (.t 117))]), zs (.st (.t 10) (.t 118) 6)])
 .ret)))))))))
theorem fm66 (prim : PrimF) (h : prim 66 = none) : FnM (tE prim) 66 m66 [(.cell 10 (some 6))] 5 :=
 ⟨h, _, _, rfl, rfl, by kernel_rfl, by kernel_rfl, by decide⟩

/-- (*mooring/node.Node).await -/
noncomputable def m67 : MC :=
 (.seq (.ops [zi 5 (.box (.t 2)), zi 6 (.alloc [(.int .i64 0), (.int .i64 0), (.int .u64 0), (.int .u64 0), (.int .i64 0), (.int .u64 0)]), zi 7 (.val (.c (.slice none 0 0)))])
 (.seq (.draw 22 [zj 14 0 (.val (.t 0)), zj 15 1 (.nilck (.t 14)), zj 16 2 (.lea (.t 15) 29), zj 17 3 (.ld (.t 16) none), zj 18 4 (.lea (.t 5) 6), zj 19 5 (.ld (.t 18) none), zj 20 6 (.lea (.t 5) 8), zj 21 7 (.ld (.t 20) none), zj 22 8 (.val (.t 0)), zj 23 9 (.nilck (.t 22)), zj 24 10 (.lea (.t 23) 2), zj 25 11 (.ld (.t 24) none), zk 26 12 (.f 33) [(.t 25)], ⟨none, (.chk (.ld (.t 16) none) 17), none, none⟩, ⟨none, (.chk (.ld (.t 18) none) 19), none, none⟩, ⟨none, (.chk (.ld (.t 20) none) 21), none, none⟩, zk 27 13 (.f 119) [(.t 17), (.t 19), (.t 21), (.t 26)], zj 13 14 (.val (.t 27)), zj 28 15 (.ext (.t 13) 0), zj 29 16 (.ext (.t 13) 1), zj 30 17 (.ext (.t 13) 2), zj 8 18 (.alloc [(.int .i64 0), (.int .u64 0), (.int .i64 0), (.int .i64 0), (.int .i64 0), (.int .u64 0), (.slice none 0 0), (.int .u64 0), (.int .i64 0), (.int .i64 0), (.slice none 0 0), (.int .u64 0), (.int .u64 0), (.int .u64 0), (.int .u64 0)]), zq 19 (.st (.t 8) (.t 28) 15), zj 9 20 (.val (.t 29)), zj 10 21 (.val (.t 30))])
 (.seq (.block 0 (.seq (.ops [zv 32 9, zv 31 32])
 (.cond (.t 31)
 (.seq (.ops [zv 33 10, zi 34 (.bld [(.int .i64 0), (.int .i64 0), (.int .u64 0), (.int .u64 0), (.int .i64 0), (.int .u64 0)] [(0, 1, (.t 33))]), zv 35 0, zi 36 (.lea (.t 5) 6), zi 37 (.ld (.t 36) none), zi 38 (.lea (.t 5) 8), zi 39 (.ld (.t 38) none), zc 40 (.f 120) [(.t 35), (.t 37), (.t 39)], zs (.st (.t 6) (.t 34) 6), zv 7 40])
 .ret)
 (.seq (.ops [zv 42 10, zi 43 (.bin .neq (.t 42) (.c (.int .i64 0))), zv 41 43])
 (.cond (.t 41)
 (.seq (.ops [zv 44 10, zc 45 (.f 59) [(.t 44)], zi 46 (.ext (.t 45) 0), zi 47 (.ext (.t 45) 1), zs (.st (.t 6) (.t 46) 6), zv 7 47])
 .ret)
 (.seq (.ops [zi 49 (.lea (.t 8) 9), zi 50 (.ld (.t 49) none), zi 51 (.bin .neq (.t 50) (.c (.int .i64 0))), zv 48 51])
 (.cond (.t 48)
 (.seq (.ops [zi 52 (.lea (.t 8) 9), zi 53 (.ld (.t 52) none), zc 54 (.f 59) [(.t 53)], zi 55 (.ext (.t 54) 0), zi 56 (.ext (.t 54) 1), zs (.st (.t 6) (.t 55) 6), zv 7 56])
 .ret)
 (.seq (.ops [zi 58 (.lea (.t 8) 2), zi 59 (.ld (.t 58) none), zi 60 (.bin .neq (.t 59) (.c (.int .i64 1))), zv 61 60, zg 62 61 true (.lea (.t 8) 2), zg 63 61 true (.ld (.t 62) none), zg 64 61 true (.bin .neq (.t 63) (.c (.int .i64 2))), zi 65 (.pick (.t 61) (.t 64) (.c (.bool false))), zv 66 65, zg 67 66 true (.lea (.t 8) 2), zg 68 66 true (.ld (.t 67) none), zg 69 66 true (.bin .neq (.t 68) (.c (.int .i64 6))), zi 70 (.pick (.t 66) (.t 69) (.c (.bool false))), zv 57 70])
 (.cond (.t 57)
 (.seq (.ops [zi 71 (.lea (.t 8) 11), zi 72 (.ld (.t 71) none), zi 73 (.bld [(.int .i64 0), (.int .i64 0), (.int .u64 0), (.int .u64 0), (.int .i64 0), (.int .u64 0)] [(3, 1, (.t 72))]), zs (.st (.t 6) (.t 73) 6), zi 7 (.val (.c (.slice none 0 0)))])
 .ret)
 .skip)))))))))
 (.seq (.ops [zc 74 (.f 63) [], zi 11 (.alloc [(.int .i64 0), (.int .u64 0)]), zs (.st (.t 11) (.t 74) 2)])
 (.seq (.seq (.ops [zi 75 (.lea (.t 8) 10), zi 76 (.ld (.t 75) none), zi 77 (.lenS (.t 76)), zi 78 (.bin .gtr (.t 77) (.c (.int .i64 0)))])
 (.cond (.t 78)
 (.ops [zi 79 (.lea (.t 8) 10), zi 80 (.ld (.t 79) none), zi 81 (.idxA (.t 80) (.c (.int .i64 0)) 2), zi 82 (.ld (.t 81) (some 2)), zs (.st (.t 11) (.t 82) 2)])
 .skip))
 (.seq (.ops [zv 83 0, zi 84 (.ld (.t 11) (some 2)), zc 85 (.f 121) [(.t 83), (.t 84)]])
 (.seq (.ops [zv 86 0, zv 87 1, zi 88 (.lea (.t 5) 1), zi 89 (.ld (.t 88) none), zi 90 (.ld (.t 11) (some 2)), zc 91 (.f 62) [(.t 86), (.t 87), (.t 89), (.t 90)], zi 12 (.alloc [(.int .i64 0), (.int .i64 0), (.int .u64 0), (.int .u64 0), (.int .i64 0), (.int .u64 0)]), zs (.st (.t 12) (.t 91) 6)])
 (.seq (.ops [zi 92 (.lea (.t 8) 11), zi 93 (.ld (.t 92) none), zi 94 (.lea (.t 12) 3), zs (.st (.t 94) (.t 93) 1)])
 (.seq (.ops [zi 95 (.ld (.t 12) (some 6)), zs (.st (.t 6) (.t 95) 6), zi 7 (.val (.c (.slice none 0 0)))])
 .ret)))))))))
theorem fm67 (prim : PrimF) (h : prim 67 = none) : FnM (tE prim) 67 m67 [(.cell 6 (some 6)), (.t 7)] 3 :=
 ⟨h, _, _, rfl, rfl, by kernel_rfl, by kernel_rfl, by decide⟩

/-- (*mooring/node.Node).call -/
noncomputable def m68 : MC :=
 (.seq (.ops [zi 5 (.box (.t 1)), zi 6 (.box (.t 2)), zi 7 (.box (.t 3)), zi 8 (.alloc [(.int .i64 0), (.int .i64 0), (.int .u64 0), (.int .u64 0), (.int .i64 0), (.int .u64 0)])])
 (.seq (.draw 12 [zj 18 0 (.lea (.t 6) 0), zj 19 1 (.ld (.t 18) none), zj 20 2 (.lea (.t 5) 0), zj 21 3 (.ld (.t 20) none), zj 22 4 (.bin .sub (.t 21) (.c (.int .i64 9))), zj 23 5 (.bin .add (.t 22) (.c (.int .i64 1))), zj 24 6 (.lea (.t 5) 3), zj 25 7 (.ld (.t 24) none), zj 9 8 (.val (.t 19)), zj 10 9 (.val (.t 23)), zj 11 10 (.val (.t 25)), zj 12 11 (.val (.c (.int .u64 0)))])
 (.seq (.ops [zi 13 (.val (.c (.slice none 0 0)))])
 (.seq (.block 0 (.seq (.ops [zi 27 (.lea (.t 5) 0), zi 28 (.ld (.t 27) none), zi 29 (.bin .eql (.t 28) (.c (.int .i64 9))), zv 26 29])
 (.cond (.t 26)
 (.seq (.seq (.ops [zi 30 (.lea (.t 5) 4), zi 31 (.ld (.t 30) none), zi 32 (.bin .lss (.t 31) (.c (.int .i64 0))), zv 33 32, zg 34 33 false (.lea (.t 5) 4), zg 35 33 false (.ld (.t 34) none), zg 36 33 false (.bin .gtr (.t 35) (.c (.int .i64 7))), zi 37 (.pick (.t 33) (.c (.bool true)) (.t 36)), zv 38 37, zg 39 38 false (.lea (.t 5) 5), zg 40 38 false (.ld (.t 39) none), zg 41 38 false (.bin .lss (.t 40) (.c (.int .i64 0))), zi 42 (.pick (.t 38) (.c (.bool true)) (.t 41)), zv 43 42, zg 44 43 false (.lea (.t 5) 5), zg 45 43 false (.ld (.t 44) none), zg 46 43 false (.bin .gtr (.t 45) (.c (.int .i64 7))), zi 47 (.pick (.t 43) (.c (.bool true)) (.t 46))])
 (.cond (.t 47)
 (.seq (.ops [zi 48 (.bld [(.int .i64 0), (.int .i64 0), (.int .u64 0), (.int .u64 0), (.int .i64 0), (.int .u64 0)] [(0, 1, (.c (.int .i64 5)))]), zs (.st (.t 8) (.t 48) 6)])
 .ret)
 .skip))
 (.draw 12 [zj 49 0 (.lea (.t 5) 6), zj 50 1 (.ld (.t 49) none), zj 51 2 (.lea (.t 5) 4), zj 52 3 (.ld (.t 51) none), zj 53 4 (.lea (.t 5) 5), zj 54 5 (.ld (.t 53) none), zj 55 6 (.bin .mul (.c (.int .i64 8)) (.t 54)), zj 56 7 (.bin .add (.t 52) (.t 55)), zk 57 8 (.f 63) [], ⟨none, (.chk (.ld (.t 49) none) 50), none, none⟩, ⟨none, (.chk (.ld (.t 51) none) 52), none, none⟩, ⟨none, (.chk (.ld (.t 53) none) 54), none, none⟩, zj 9 9 (.val (.t 50)), zj 11 10 (.val (.t 56)), zq 11 (.st (.t 6) (.t 57) 2)]))
 (.seq (.ops [zi 59 (.lea (.t 5) 0), zi 60 (.ld (.t 59) none), zi 61 (.bin .eql (.t 60) (.c (.int .i64 15))), zv 58 61])
 (.cond (.t 58)
 (.draw 6 [zj 62 0 (.lea (.t 5) 6), zj 63 1 (.ld (.t 62) none), zk 64 2 (.f 63) [], ⟨none, (.chk (.ld (.t 62) none) 63), none, none⟩, zj 9 3 (.val (.t 63)), zj 10 4 (.val (.c (.int .i64 6))), zq 5 (.st (.t 6) (.t 64) 2)])
 (.seq (.draw 9 [zj 66 0 (.ld (.t 6) (some 2)), zk 67 1 (.f 63) [], ⟨none, (.chk (.ld (.t 6) (some 2)) 66), none, none⟩, zj 68 2 (.eqv 54 false (.t 66) (.t 67)), zj 69 3 (.val (.t 68)), ⟨(some 70), (.i (.val (.t 0))), (some (69, false)), (some 4)⟩, ⟨(some 71), (.i (.ld (.t 6) (some 2))), (some (69, false)), (some 5)⟩, ⟨(some 72), (.call (.f 111) [(.t 70), (.t 71)]), (some (69, false)), (some 6)⟩, zj 73 7 (.pick (.t 69) (.c (.bool true)) (.t 72)), zj 65 8 (.val (.t 73))])
 (.cond (.t 65)
 (.seq (.ops [zi 74 (.bld [(.int .i64 0), (.int .i64 0), (.int .u64 0), (.int .u64 0), (.int .i64 0), (.int .u64 0)] [(0, 1, (.c (.int .i64 5)))]), zs (.st (.t 8) (.t 74) 6)])
 .ret)
 (.seq (.seq (.ops [zv 76 0, zi 77 (.ld (.t 6) (some 2)), zc 78 (.f 64) [(.t 76), (.t 77)], zv 75 78])
 (.cond (.t 75)
 .skip
 (.ops [zi 79 (.lea (.t 5) 0), zi 80 (.ld (.t 79) none), zi 81 (.bin .eql (.t 80) (.c (.int .i64 11))), zv 82 81, zg 83 82 true (.val (.t 0)), zg 84 82 true (.ld (.t 7) (some 2)), ⟨(some 85), (.call (.f 64) [(.t 83), (.t 84)]), (some (82, true)), none⟩, zi 86 (.pick (.t 82) (.t 85) (.c (.bool false))), zv 75 86])))
 (.cond (.t 75)
 (.seq (.ops [zi 87 (.bld [(.int .i64 0), (.int .i64 0), (.int .u64 0), (.int .u64 0), (.int .i64 0), (.int .u64 0)] [(0, 1, (.c (.int .i64 4)))]), zs (.st (.t 8) (.t 87) 6)])
 .ret)
 (.seq (.ops [zi 89 (.lea (.t 5) 0), zi 90 (.ld (.t 89) none), zi 91 (.bin .eql (.t 90) (.c (.int .i64 11))), zv 88 91])
 (.cond (.t 88)
 (.ops [zi 92 (.ld (.t 7) (some 2)), zi 93 (.gen (.buildSlice 55 1 #[(0, (.tmp 92))])), zv 13 93])
 (.seq (.ops [zi 95 (.lea (.t 5) 0), zi 96 (.ld (.t 95) none), zi 97 (.bin .eql (.t 96) (.c (.int .i64 13))), zv 94 97])
 (.cond (.t 94)
 (.ops [zi 98 (.lea (.t 5) 7), zi 99 (.ld (.t 98) none), zv 12 99])
 .skip)))))))))))))
 (.seq (.draw 21 [zj 101 0 (.val (.t 0)), zj 102 1 (.nilck (.t 101)), zj 103 2 (.lea (.t 102) 29), zj 104 3 (.ld (.t 103) none), zj 105 4 (.val (.t 9)), zj 106 5 (.val (.t 10)), zj 107 6 (.val (.t 11)), zj 108 7 (.ld (.t 6) (some 2)), zj 109 8 (.val (.t 12)), zj 110 9 (.val (.t 13)), zj 111 10 (.val (.t 0)), zj 112 11 (.nilck (.t 111)), zj 113 12 (.lea (.t 112) 2), zj 114 13 (.ld (.t 113) none), zk 115 14 (.f 33) [(.t 114)], ⟨none, (.chk (.ld (.t 103) none) 104), none, none⟩, ⟨none, (.chk (.ld (.t 6) (some 2)) 108), none, none⟩, zk 116 15 (.f 122) [(.t 104), (.t 105), (.t 106), (.t 107), (.t 108), (.t 109), (.t 110), (.t 115)], zj 100 16 (.val (.t 116)), zj 117 17 (.ext (.t 100) 0), zj 118 18 (.ext (.t 100) 1), zj 14 19 (.val (.t 117)), zj 15 20 (.val (.t 118))])
 (.seq (.seq (.ops [zv 119 15])
 (.block 1 (.seq (.ops [zi 123 (.bin .eql (.t 119) (.c (.int .i64 0))), zv 122 123])
 (.cond (.t 122)
 .skip
 (.seq (.ops [zi 125 (.bin .eql (.t 119) (.c (.int .i64 1))), zv 124 125])
 (.cond (.t 124)
 (.seq (.ops [zi 126 (.bld [(.int .i64 0), (.int .i64 0), (.int .u64 0), (.int .u64 0), (.int .i64 0), (.int .u64 0)] [(0, 1, (.c (.int .i64 5)))]), zs (.st (.t 8) (.t 126) 6)])
 .ret)
 (.seq (.ops [zv 120 15, zi 121 (.bld [(.int .i64 0), (.int .i64 0), (.int .u64 0), (.int .u64 0), (.int .i64 0), (.int .u64 0)] [(0, 1, (.t 120))]), zs (.st (.t 8) (.t 121) 6)])
 .ret)))))))
 (.seq (.ops [zv 127 0, zi 128 (.ld (.t 6) (some 2)), zc 129 (.f 121) [(.t 127), (.t 128)]])
 (.seq (.seq (.ops [zv 130 13, zi 131 (.lenS (.t 130)), zi 132 (.val (.c (.int .i64 0)))])
 (.block 2 (.loop (.seq (.ops [zi 133 (.bin .lss (.t 132) (.t 131))])
 (.seq (.cond (.t 133)
 .skip
 (.exit 2))
 (.seq (.block 3 (.seq (.ops [zi 134 (.idxA (.t 130) (.t 132) 2), zi 135 (.ld (.t 134) (some 2)), zi 17 (.alloc [(.int .i64 0), (.int .u64 0)]), zs (.st (.t 17) (.t 135) 2)])
 (.ops [zv 136 0, zi 137 (.ld (.t 17) (some 2)), zc 138 (.f 123) [(.t 136), (.t 137)]])))
 (.ops [zi 139 (.bin .add (.t 132) (.c (.int .i64 1))), zv 132 139])))))))
 (.seq (.ops [zv 140 9, zv 141 14, zi 142 (.bld [(.int .i64 0), (.int .i64 0), (.int .u64 0), (.int .u64 0), (.int .i64 0), (.int .u64 0)] [(4, 1, (.t 140)), (5, 1, (.t 141))]), zs (.st (.t 8) (.t 142) 6)])
 .ret)))))))))
theorem fm68 (prim : PrimF) (h : prim 68 = none) : FnM (tE prim) 68 m68 [(.cell 8 (some 6))] 4 :=
 ⟨h, _, _, rfl, rfl, by kernel_rfl, by kernel_rfl, by decide⟩

/-- mooring/mooringref8.Same -/
noncomputable def m81 : MC :=
 (.seq (.ops [zi 2 (.box (.t 0)), zi 3 (.box (.t 1)), zi 4 (.val (.c (.bool false)))])
 (.seq (.ops [zi 5 (.lea (.t 2) 0), zi 6 (.ld (.t 5) none), zi 7 (.lea (.t 3) 0), zi 8 (.ld (.t 7) none), zi 9 (.bin .eql (.t 6) (.t 8)), zv 10 9, zg 11 10 true (.lea (.t 2) 1), zg 12 10 true (.ld (.t 11) none), zg 13 10 true (.lea (.t 3) 1), zg 14 10 true (.ld (.t 13) none), zg 15 10 true (.bin .eql (.t 12) (.t 14)), zi 16 (.pick (.t 10) (.t 15) (.c (.bool false))), zv 17 16, zg 18 17 true (.lea (.t 2) 4), zg 19 17 true (.ld (.t 18) none), zg 20 17 true (.lea (.t 3) 4), zg 21 17 true (.ld (.t 20) none), zg 22 17 true (.bin .eql (.t 19) (.t 21)), zi 23 (.pick (.t 17) (.t 22) (.c (.bool false))), zv 24 23, zg 25 24 true (.lea (.t 2) 2), zg 26 24 true (.ld (.t 25) none), zg 27 24 true (.lea (.t 3) 2), zg 28 24 true (.ld (.t 27) none), ⟨(some 29), (.call (.f 26) [(.t 26), (.t 28)]), (some (24, true)), none⟩, zi 30 (.pick (.t 24) (.t 29) (.c (.bool false))), zv 31 30, zg 32 31 true (.lea (.t 2) 3), zg 33 31 true (.ld (.t 32) none), zg 34 31 true (.lea (.t 3) 3), zg 35 31 true (.ld (.t 34) none), ⟨(some 36), (.call (.f 30) [(.t 33), (.t 35)]), (some (31, true)), none⟩, zi 37 (.pick (.t 31) (.t 36) (.c (.bool false))), zv 4 37])
 .ret))
theorem fm81 (prim : PrimF) (h : prim 81 = none) : FnM (tE prim) 81 m81 [(.t 4)] 2 :=
 ⟨h, _, _, rfl, rfl, by kernel_rfl, by kernel_rfl, by decide⟩

/-- mooring/mooringhand.Call -/
noncomputable def m84 : MC :=
 (.seq (.ops [zi 2 (.box (.t 0)), zi 3 (.box (.t 1)), zi 4 (.val (.c (.bool false)))])
 (.seq (.ops [zi 5 (.lea (.t 2) 0), zi 6 (.ld (.t 5) none), zi 7 (.lea (.t 3) 0), zi 8 (.ld (.t 7) none), zi 9 (.bin .eql (.t 6) (.t 8)), zv 10 9, zg 11 10 true (.lea (.t 2) 1), zg 12 10 true (.ld (.t 11) none), zg 13 10 true (.lea (.t 3) 1), zg 14 10 true (.ld (.t 13) none), zg 15 10 true (.bin .eql (.t 12) (.t 14)), zi 16 (.pick (.t 10) (.t 15) (.c (.bool false))), zv 17 16, zg 18 17 true (.lea (.t 2) 2), zg 19 17 true (.ld (.t 18) none), zg 20 17 true (.lea (.t 3) 2), zg 21 17 true (.ld (.t 20) none), zg 22 17 true (.bin .eql (.t 19) (.t 21)), zi 23 (.pick (.t 17) (.t 22) (.c (.bool false))), zv 24 23, zg 25 24 true (.lea (.t 2) 3), zg 26 24 true (.ld (.t 25) none), zg 27 24 true (.lea (.t 3) 3), zg 28 24 true (.ld (.t 27) none), zg 29 24 true (.bin .eql (.t 26) (.t 28)), zi 30 (.pick (.t 24) (.t 29) (.c (.bool false))), zv 31 30, zg 32 31 true (.lea (.t 2) 4), zg 33 31 true (.ld (.t 32) (some 2)), zg 34 31 true (.lea (.t 3) 4), zg 35 31 true (.ld (.t 34) (some 2)), zg 36 31 true (.eqv 54 false (.t 33) (.t 35)), zi 37 (.pick (.t 31) (.t 36) (.c (.bool false))), zv 38 37, zg 39 38 true (.lea (.t 2) 7), zg 40 38 true (.ld (.t 39) none), zg 41 38 true (.lea (.t 3) 7), zg 42 38 true (.ld (.t 41) none), zg 43 38 true (.bin .eql (.t 40) (.t 42)), zi 44 (.pick (.t 38) (.t 43) (.c (.bool false))), zv 45 44, zg 46 45 true (.lea (.t 2) 8), zg 47 45 true (.ld (.t 46) none), zg 48 45 true (.lea (.t 3) 8), zg 49 45 true (.ld (.t 48) none), zg 50 45 true (.bin .eql (.t 47) (.t 49)), zi 51 (.pick (.t 45) (.t 50) (.c (.bool false))), zv 52 51, zg 53 52 true (.lea (.t 2) 9), zg 54 52 true (.ld (.t 53) none), zg 55 52 true (.lea (.t 3) 9), zg 56 52 true (.ld (.t 55) none), zg 57 52 true (.bin .eql (.t 54) (.t 56)), zi 58 (.pick (.t 52) (.t 57) (.c (.bool false))), zv 59 58, zg 60 59 true (.lea (.t 2) 11), zg 61 59 true (.ld (.t 60) none), zg 62 59 true (.lea (.t 3) 11), zg 63 59 true (.ld (.t 62) none), zg 64 59 true (.bin .eql (.t 61) (.t 63)), zi 65 (.pick (.t 59) (.t 64) (.c (.bool false))), zv 66 65, zg 67 66 true (.lea (.t 2) 12), zg 68 66 true (.ld (.t 67) none), zg 69 66 true (.lea (.t 3) 12), zg 70 66 true (.ld (.t 69) none), zg 71 66 true (.bin .eql (.t 68) (.t 70)), zi 72 (.pick (.t 66) (.t 71) (.c (.bool false))), zv 73 72, zg 74 73 true (.lea (.t 2) 13), zg 75 73 true (.ld (.t 74) none), zg 76 73 true (.lea (.t 3) 13), zg 77 73 true (.ld (.t 76) none), zg 78 73 true (.bin .eql (.t 75) (.t 77)), zi 79 (.pick (.t 73) (.t 78) (.c (.bool false))), zv 80 79, zg 81 80 true (.lea (.t 2) 14), zg 82 80 true (.ld (.t 81) none), zg 83 80 true (.lea (.t 3) 14), zg 84 80 true (.ld (.t 83) none), zg 85 80 true (.bin .eql (.t 82) (.t 84)), zi 86 (.pick (.t 80) (.t 85) (.c (.bool false))), zv 87 86, zg 88 87 true (.lea (.t 2) 6), zg 89 87 true (.ld (.t 88) none), zg 90 87 true (.lea (.t 3) 6), zg 91 87 true (.ld (.t 90) none), ⟨(some 92), (.call (.f 26) [(.t 89), (.t 91)]), (some (87, true)), none⟩, zi 93 (.pick (.t 87) (.t 92) (.c (.bool false))), zv 94 93, zg 95 94 true (.lea (.t 2) 10), zg 96 94 true (.ld (.t 95) none), zg 97 94 true (.lea (.t 3) 10), zg 98 94 true (.ld (.t 97) none), ⟨(some 99), (.call (.f 26) [(.t 96), (.t 98)]), (some (94, true)), none⟩, zi 100 (.pick (.t 94) (.t 99) (.c (.bool false))), zv 4 100])
 .ret))
theorem fm84 (prim : PrimF) (h : prim 84 = none) : FnM (tE prim) 84 m84 [(.t 4)] 2 :=
 ⟨h, _, _, rfl, rfl, by kernel_rfl, by kernel_rfl, by decide⟩

end Go.Sh
