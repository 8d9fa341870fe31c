import Derived.Test.YtlmpeiepanajmaaGreatM4
set_option linter.all false
section
open Go.Proofs
namespace Go.Ev
theorem api_NodeType_118.good (k : Nat) : G 118 ⟨[(HL (.nm 1)), (.hole (.fn (.pair (.nm 1) .unit) .bool))], [HI], fun x => api_NodeType_118 x.1 x.2.1⟩ := by
 have c := cn
 have l := ln c Tryz.f118 [] (by kernel_rfl)
 have l := lc c l [] 0 ⟨[0, 1, 7, 8], [(HL (.nm 1)), (.hole (.fn (.pair (.nm 1) .unit) .bool)), HI, HI]⟩ [(.exit 0, ⟨[], []⟩), (.ret, ⟨[4], [HI]⟩)] (fun n x => api_NodeType_118.l0 x.1 x.2.1 x.2.2.1 n x.2.2.2.1) (fun x => (Int.toNat x.2.2.1 + 1)) (fun x => by kernel_rfl) (fun n x => by kernel_rfl) (by kernel_rfl)
 exact fo c l [] Tryz.func118 (by kernel_rfl) (fun x => by kernel_rfl)
theorem cQ.good (k : Nat) : G 85 ⟨[(HL (.nm 1)), (.hole (.fn (.pair (.nm 1) .unit) .bool))], [HB], fun x => cQ x.1 x.2.1⟩ := f0 (cf (api_NodeType_118.good k) cn) [] [] Tryz.func85 (by kernel_rfl) fun x => by kernel_rfl
theorem dG.good (k : Nat) : G 220 ⟨[(.hole (.int .u8))], [HB], fun x => dG x.1⟩ := f0 cn [] [(1, [(2, .bool)])] Tryz.func220 (by kernel_rfl) fun x => by kernel_rfl
theorem token_run.good (k : Nat) : G 221 ⟨[HS, (.hole (.fn (.pair (.int .u8) .unit) .bool))], [HI], fun x => token_run k x.1 x.2.1⟩ := by
 have c := cn
 have l := ln c Tryz.f221 [] (by kernel_rfl)
 have l := lc c l [(2, [(16, .bool)])] 0 ⟨[0, 1, 5], [HS, (.hole (.fn (.pair (.int .u8) .unit) .bool)), HI]⟩ [(.exit 0, ⟨[5], [HI]⟩)] (fun n x => token_run.l0 x.1 x.2.1 n x.2.2.1) (fun x => k) (fun x => by kernel_rfl) (fun n x => by kernel_rfl) (by kernel_rfl)
 exact fo c l [(2, [(16, .bool)])] Tryz.func221 (by kernel_rfl) (fun x => by kernel_rfl)
theorem cJ.good (k : Nat) : G 223 ⟨[(.hole (.int .u8))], [HB], fun x => cJ x.1⟩ := f0 cn [] [(1, [(2, .bool)])] Tryz.func223 (by kernel_rfl) fun x => by kernel_rfl
theorem top223.good (k : Nat) : GC 223 ⟨.unit, (.pair (.int .u8) .unit), .bool, fun _ x => (cJ x.1).map (·.1)⟩ := nQ (.pair (.int .u8) .unit) .bool (cJ.good k) rfl rfl
theorem eU.good (k : Nat) : G 222 ⟨[(.hole (.int .u8))], [HB], fun x => eU x.1⟩ := f0 (cf (dG.good k) (cf (cJ.good k) (cc (top223.good k) cn))) [] [(1, [(2, .bool)])] Tryz.func222 (by kernel_rfl) fun x => by kernel_rfl
theorem dY.good (k : Nat) : GC 263 ⟨.unit, (.pair (.int .u8) .unit), .bool, fun y x => dY x.1⟩ := c0 cn [(1, [(2, .bool)])] Tryz.func263 (by kernel_rfl) fun x y => by kernel_rfl
theorem eY.good (k : Nat) : G 224 ⟨[HS], [HI, HI], fun x => eY k x.1⟩ := f0 (cf (token_run.good k) (cc (dY.good k) cn)) [] [(2, [(19, .bool)])] Tryz.func224 (by kernel_rfl) fun x => by kernel_rfl
theorem slices_Index_lstring.good (k : Nat) : G 227 ⟨[(HL .str), HS], [HI], fun x => slices_Index_lstring x.1 x.2.1⟩ := by
 have c := cn
 have l := ln c Tryz.f227 [] (by kernel_rfl)
 have l := lc c l [] 0 ⟨[0, 1, 7, 8], [(HL .str), HS, HI, HI]⟩ [(.exit 0, ⟨[], []⟩), (.ret, ⟨[4], [HI]⟩)] (fun n x => slices_Index_lstring.l0 x.1 x.2.1 x.2.2.1 n x.2.2.2.1) (fun x => (Int.toNat x.2.2.1 + 1)) (fun x => by kernel_rfl) (fun n x => by kernel_rfl) (by kernel_rfl)
 exact fo c l [] Tryz.func227 (by kernel_rfl) (fun x => by kernel_rfl)
theorem aP.good (k : Nat) : G 180 ⟨[(HL .str), HS], [HB], fun x => aP x.1 x.2.1⟩ := f0 (cf (slices_Index_lstring.good k) cn) [] [] Tryz.func180 (by kernel_rfl) fun x => by kernel_rfl
theorem gh.good (k : Nat) : G 225 ⟨[HS], [HB], fun x => gh x.1⟩ := f0 (cf (aP.good k) cn) [] [(1, [(2, .bool)])] Tryz.func225 (by kernel_rfl) fun x => by kernel_rfl
theorem top222.good (k : Nat) : GC 222 ⟨.unit, (.pair (.int .u8) .unit), .bool, fun _ x => (eU x.1).map (·.1)⟩ := nQ (.pair (.int .u8) .unit) .bool (eU.good k) rfl rfl
theorem eB.good (k : Nat) : G 178 ⟨[HS], [HI, HI, HI], fun x => eB k x.1⟩ := f0 (cf (dG.good k) (cf (token_run.good k) (cf (eU.good k) (cc (top222.good k) (cf (cJ.good k) (cc (top223.good k) (cf (eY.good k) (cf (gh.good k) (cf (lib226.good k) cn))))))))) [] [] Tryz.func178 (by kernel_rfl) fun x => by kernel_rfl
theorem gI.good (k : Nat) : G 144 ⟨[(HN 23)], [HS, HB], fun x => gI k x.1⟩ := f0 (cf (eB.good k) cn) [] [(7, [(2, .str), (3, .bool)])] Tryz.func144 (by kernel_rfl) fun x => by kernel_rfl
theorem bF.good (k : Nat) : G 108 ⟨[HS], [HB], fun x => bF k x.1⟩ := f0 (cf (gI.good k) cn) [] [] Tryz.func108 (by kernel_rfl) fun x => by kernel_rfl
theorem cL.good : ∀ k : Nat, G 110 ⟨[(HN 3), HI], [(RN 0)], fun x => cL k x.1 x.2.1⟩
 | 0 => dK Tryz.func110 (c := ep Tryz.f110) (by kernel_rfl) (by kernel_rfl) fun _ => rfl
 | k + 1 => by
  have h := cL.good k
  exact f0 (cf (h) cn) [] [] Tryz.func110 (by kernel_rfl) fun x => by kernel_rfl
theorem api_Attr_179.good (k : Nat) : G 179 ⟨[(HL (.nm 0)), (.hole (.fn (.pair (.nm 0) .unit) .bool))], [HI], fun x => api_Attr_179 x.1 x.2.1⟩ := by
 have c := cn
 have l := ln c Tryz.f179 [] (by kernel_rfl)
 have l := lc c l [] 0 ⟨[0, 1, 7, 8], [(HL (.nm 0)), (.hole (.fn (.pair (.nm 0) .unit) .bool)), HI, HI]⟩ [(.exit 0, ⟨[], []⟩), (.ret, ⟨[4], [HI]⟩)] (fun n x => api_Attr_179.l0 x.1 x.2.1 x.2.2.1 n x.2.2.2.1) (fun x => (Int.toNat x.2.2.1 + 1)) (fun x => by kernel_rfl) (fun n x => by kernel_rfl) (by kernel_rfl)
 exact fo c l [] Tryz.func179 (by kernel_rfl) (fun x => by kernel_rfl)
theorem fL.good (k : Nat) : G 145 ⟨[(HL (.nm 0)), (.hole (.fn (.pair (.nm 0) .unit) .bool))], [HB], fun x => fL x.1 x.2.1⟩ := f0 (cf (api_Attr_179.good k) cn) [] [] Tryz.func145 (by kernel_rfl) fun x => by kernel_rfl
theorem types_names.good (k : Nat) : G 147 ⟨[(HL .str)], [HI], fun x => types_names k x.1⟩ := by
 have c := cf (bF.good k) (cf (aP.good k) cn)
 have l := ln c Tryz.f147 [] (by kernel_rfl)
 have l := lc c l [] 0 ⟨[0, 8, 9, 10], [(HL .str), (HL .str), HI, HI]⟩ [(.exit 0, ⟨[], []⟩), (.ret, ⟨[2], [HI]⟩)] (fun n x => types_names.l0 k x.1 x.2.1 x.2.2.1 n x.2.2.2.1) (fun x => (Int.toNat x.2.2.1 + 1)) (fun x => by kernel_rfl) (fun n x => by kernel_rfl) (by kernel_rfl)
 exact fo c l [] Tryz.func147 (by kernel_rfl) (fun x => by kernel_rfl)
theorem dC.good (k : Nat) : GC 146 ⟨(.pair (.ptr (.nm 0)) .unit), (.pair (.nm 0) .unit), .bool, fun y x => dC x.1 y.1⟩ := c0 cn [] Tryz.func146 (by kernel_rfl) fun x y => by kernel_rfl
theorem dz.good (k : Nat) : G 111 ⟨[(HN 0), (HL (.nm 0))], [HI], fun x => dz k x.1 x.2.1⟩ := f0 (cf (bF.good k) (cf (fL.good k) (cc (dC.good k) (cf (types_names.good k) cn)))) [] [(10, [(6, .bool)]), (8, [(6, .bool)])] Tryz.func111 (by kernel_rfl) fun x => by kernel_rfl
theorem fU.good (k : Nat) : GC 109 ⟨(.pair (.ptr (.nm 1)) .unit), (.pair (.nm 1) .unit), .bool, fun y x => fU x.1 y.1⟩ := c0 cn [] Tryz.func109 (by kernel_rfl) fun x y => by kernel_rfl
theorem types_node.good (k : Nat) : G 82 ⟨[(HN 3), HI], [HI], fun x => types_node k x.1 x.2.1⟩ := by
 have c := cf (cQ.good k) (cf (bF.good k) (cc (fU.good k) (cf (cL.good k) (cf (dz.good k) cn))))
 have l := ln c Tryz.f82 [] (by kernel_rfl)
 have l := lc c l [(6, [(26, .bool)])] 1 ⟨[6, 7], [(RN 0), HI]⟩ [(.exit 1, ⟨[], []⟩), (.ret, ⟨[4], [HI]⟩)] (fun n x => types_node.l1 k x.1 n x.2.1) (fun x => k) (fun x => by kernel_rfl) (fun n x => by kernel_rfl) (by kernel_rfl)
 exact fo c l [(6, [(26, .bool)])] Tryz.func82 (by kernel_rfl) (fun x => by kernel_rfl)
theorem api_EdgeType_148.good (k : Nat) : G 148 ⟨[(HL (.nm 2)), (.hole (.fn (.pair (.nm 2) .unit) .bool))], [HI], fun x => api_EdgeType_148 x.1 x.2.1⟩ := by
 have c := cn
 have l := ln c Tryz.f148 [] (by kernel_rfl)
 have l := lc c l [] 0 ⟨[0, 1, 7, 8], [(HL (.nm 2)), (.hole (.fn (.pair (.nm 2) .unit) .bool)), HI, HI]⟩ [(.exit 0, ⟨[], []⟩), (.ret, ⟨[4], [HI]⟩)] (fun n x => api_EdgeType_148.l0 x.1 x.2.1 x.2.2.1 n x.2.2.2.1) (fun x => (Int.toNat x.2.2.1 + 1)) (fun x => by kernel_rfl) (fun n x => by kernel_rfl) (by kernel_rfl)
 exact fo c l [] Tryz.func148 (by kernel_rfl) (fun x => by kernel_rfl)
theorem dS.good (k : Nat) : G 113 ⟨[(HL (.nm 2)), (.hole (.fn (.pair (.nm 2) .unit) .bool))], [HB], fun x => dS x.1 x.2.1⟩ := f0 (cf (api_EdgeType_148.good k) cn) [] [] Tryz.func113 (by kernel_rfl) fun x => by kernel_rfl
theorem dL.good (k : Nat) : G 115 ⟨[HI, HI], [HB], fun x => dL x.1 x.2.1⟩ := f0 cn [] [(1, [(4, .bool)])] Tryz.func115 (by kernel_rfl) fun x => by kernel_rfl
theorem fM.good (k : Nat) : GC 114 ⟨(.pair (.ptr (.nm 2)) .unit), (.pair (.nm 2) .unit), .bool, fun y x => fM x.1 y.1⟩ := c0 cn [] Tryz.func114 (by kernel_rfl) fun x y => by kernel_rfl
theorem f8.good (k : Nat) : GC 112 ⟨(.pair (.ptr (.nm 3)) .unit), (.pair (.int .i64) .unit), .bool, fun y x => f8 x.1 y.1⟩ := c0 cn [(1, [(3, .bool)])] Tryz.func112 (by kernel_rfl) fun x y => by kernel_rfl
theorem gu.good (k : Nat) : G 83 ⟨[(HN 3), HI], [HI], fun x => gu k x.1 x.2.1⟩ := f0 (cf (bF.good k) (cc (f8.good k) (cf (dS.good k) (cc (fM.good k) (cf (dL.good k) cn))))) [] [(8, [(25, .bool)]), (7, [(25, .bool)])] Tryz.func83 (by kernel_rfl) fun x => by kernel_rfl
theorem types_Valid.good (k : Nat) : G 58 ⟨[(HN 3)], [HS, HI], fun x => types_Valid k x.1⟩ := by
 have c := cf (types_node.good k) (cf (gu.good k) cn)
 have l := ln c Tryz.f58 [] (by kernel_rfl)
 have l := lc c l [(3, [(15, .bool)])] 1 ⟨[1, 27, 28, 29], [(.boxh (.nm 3) (HN 3)), (HL (.nm 1)), HI, HI]⟩ [(.exit 1, ⟨[1], [(.boxh (.nm 3) (HN 3))]⟩), (.ret, ⟨[2, 3], [HS, HI]⟩)] (fun n x => types_Valid.l1 k x.1 x.2.1 x.2.2.1 n x.2.2.2.1) (fun x => (Int.toNat x.2.2.1 + 1)) (fun x => by kernel_rfl) (fun n x => by kernel_rfl) (by kernel_rfl)
 have l := lc c l [(3, [(15, .bool)])] 3 ⟨[1, 44, 45, 46], [(.boxh (.nm 3) (HN 3)), (HL (.nm 2)), HI, HI]⟩ [(.exit 3, ⟨[], []⟩), (.ret, ⟨[2, 3], [HS, HI]⟩)] (fun n x => types_Valid.l3 k x.1 x.2.1 x.2.2.1 n x.2.2.2.1) (fun x => (Int.toNat x.2.2.1 + 1)) (fun x => by kernel_rfl) (fun n x => by kernel_rfl) (by kernel_rfl)
 exact fo c l [(3, [(15, .bool)])] Tryz.func58 (by kernel_rfl) (fun x => by kernel_rfl)
theorem slices_Index_lint.good (k : Nat) : G 248 ⟨[(HL (.int .i64)), HI], [HI], fun x => slices_Index_lint x.1 x.2.1⟩ := by
 have c := cn
 have l := ln c Tryz.f248 [] (by kernel_rfl)
 have l := lc c l [] 0 ⟨[0, 1, 7, 8], [(HL (.int .i64)), HI, HI, HI]⟩ [(.exit 0, ⟨[], []⟩), (.ret, ⟨[4], [HI]⟩)] (fun n x => slices_Index_lint.l0 x.1 x.2.1 x.2.2.1 n x.2.2.2.1) (fun x => (Int.toNat x.2.2.1 + 1)) (fun x => by kernel_rfl) (fun n x => by kernel_rfl) (by kernel_rfl)
 exact fo c l [] Tryz.func248 (by kernel_rfl) (fun x => by kernel_rfl)
theorem bo.good (k : Nat) : G 199 ⟨[(HL (.int .i64)), HI], [HB], fun x => bo x.1 x.2.1⟩ := f0 (cf (slices_Index_lint.good k) cn) [] [] Tryz.func199 (by kernel_rfl) fun x => by kernel_rfl
theorem rule_others.good (k : Nat) : G 154 ⟨[(HL (.int .i64)), HI], [RI], fun x => rule_others x.1 x.2.1⟩ := by
 have c := cf (bo.good k) cn
 have l := ln c Tryz.f154 [] (by kernel_rfl)
 have l := lc c l [] 0 ⟨[0, 5, 7, 8], [(HL (.int .i64)), RI, HI, HI]⟩ [(.exit 0, ⟨[5], [RI]⟩)] (fun n x => rule_others.l0 x.1 x.2.2.1 n x.2.1 x.2.2.2.1) (fun x => (Int.toNat x.2.2.1 + 1)) (fun x => by kernel_rfl) (fun n x => by kernel_rfl) (by kernel_rfl)
 exact fo c l [] Tryz.func154 (by kernel_rfl) (fun x => by kernel_rfl)
theorem dI.good (k : Nat) : G 119 ⟨[(HN 13)], [RI, RI], fun x => dI x.1⟩ := f0 (cf (rule_others.good k) cn) [] [] Tryz.func119 (by kernel_rfl) fun x => by kernel_rfl
theorem slices_IndexFunc_lint.good (k : Nat) : G 74 ⟨[(HL (.int .i64)), (.hole (.fn (.pair (.int .i64) .unit) .bool))], [HI], fun x => slices_IndexFunc_lint x.1 x.2.1⟩ := by
 have c := cn
 have l := ln c Tryz.f74 [] (by kernel_rfl)
 have l := lc c l [] 0 ⟨[0, 1, 7, 8], [(HL (.int .i64)), (.hole (.fn (.pair (.int .i64) .unit) .bool)), HI, HI]⟩ [(.exit 0, ⟨[], []⟩), (.ret, ⟨[4], [HI]⟩)] (fun n x => slices_IndexFunc_lint.l0 x.1 x.2.1 x.2.2.1 n x.2.2.2.1) (fun x => (Int.toNat x.2.2.1 + 1)) (fun x => by kernel_rfl) (fun n x => by kernel_rfl) (by kernel_rfl)
 exact fo c l [] Tryz.func74 (by kernel_rfl) (fun x => by kernel_rfl)
theorem af.good (k : Nat) : G 45 ⟨[(HL (.int .i64)), (.hole (.fn (.pair (.int .i64) .unit) .bool))], [HB], fun x => af x.1 x.2.1⟩ := f0 (cf (slices_IndexFunc_lint.good k) cn) [] [] Tryz.func45 (by kernel_rfl) fun x => by kernel_rfl
theorem api_Edge_232.good (k : Nat) : G 232 ⟨[(HL (.nm 4)), (.hole (.fn (.pair (.nm 4) .unit) .bool))], [HI], fun x => api_Edge_232 x.1 x.2.1⟩ := by
 have c := cn
 have l := ln c Tryz.f232 [] (by kernel_rfl)
 have l := lc c l [] 0 ⟨[0, 1, 7, 8], [(HL (.nm 4)), (.hole (.fn (.pair (.nm 4) .unit) .bool)), HI, HI]⟩ [(.exit 0, ⟨[], []⟩), (.ret, ⟨[4], [HI]⟩)] (fun n x => api_Edge_232.l0 x.1 x.2.1 x.2.2.1 n x.2.2.2.1) (fun x => (Int.toNat x.2.2.1 + 1)) (fun x => by kernel_rfl) (fun n x => by kernel_rfl) (by kernel_rfl)
 exact fo c l [] Tryz.func232 (by kernel_rfl) (fun x => by kernel_rfl)
theorem cZ.good (k : Nat) : G 183 ⟨[(HL (.nm 4)), (.hole (.fn (.pair (.nm 4) .unit) .bool))], [HB], fun x => cZ x.1 x.2.1⟩ := f0 (cf (api_Edge_232.good k) cn) [] [] Tryz.func183 (by kernel_rfl) fun x => by kernel_rfl
theorem cH.good (k : Nat) : G 229 ⟨[HI, HI], [HB], fun x => cH x.1 x.2.1⟩ := f0 cn [] [(1, [(4, .bool)])] Tryz.func229 (by kernel_rfl) fun x => by kernel_rfl
theorem gm.good (k : Nat) : G 231 ⟨[(HN 4), HI], [HB], fun x => gm x.1 x.2.1⟩ := f0 (cf (cH.good k) cn) [] [(1, [(4, .bool)])] Tryz.func231 (by kernel_rfl) fun x => by kernel_rfl
theorem eF.good (k : Nat) : GC 228 ⟨.unit, (.pair (.int .i64) .unit), .bool, fun y x => eF x.1⟩ := c0 (cf (cH.good k) cn) [] Tryz.func228 (by kernel_rfl) fun x y => by kernel_rfl
theorem eJ.good (k : Nat) : GC 230 ⟨(.pair (.ptr (.nm 5)) .unit), (.pair (.nm 4) .unit), .bool, fun y x => eJ x.1 y.1⟩ := c0 (cf (gm.good k) cn) [] Tryz.func230 (by kernel_rfl) fun x y => by kernel_rfl
theorem cm.good (k : Nat) : G 181 ⟨[(HN 5)], [HI], fun x => cm x.1⟩ := f0 (cf (af.good k) (cf (cZ.good k) (cc (eF.good k) (cc (eJ.good k) cn)))) [] [(1, [(12, .bool)])] Tryz.func181 (by kernel_rfl) fun x => by kernel_rfl
theorem aX.good (k : Nat) : G 185 ⟨[HI, HI, HI], [HB], fun x => aX x.1 x.2.1 x.2.2.1⟩ := f0 cn [] [(1, [(6, .bool)])] Tryz.func185 (by kernel_rfl) fun x => by kernel_rfl
theorem eK.good (k : Nat) : GC 270 ⟨(.pair (.ptr (.nm 3)) .unit), (.pair (.int .i64) .unit), .bool, fun y x => eK x.1 y.1⟩ := c0 cn [(1, [(3, .bool)])] Tryz.func270 (by kernel_rfl) fun x y => by kernel_rfl
theorem eo.good (k : Nat) : G 243 ⟨[(HN 3), (HL (.int .i64))], [HI], fun x => eo k x.1 x.2.1⟩ := f0 (cf (af.good k) (cf (types_Valid.good k) (cc (eK.good k) cn))) [] [] Tryz.func243 (by kernel_rfl) fun x => by kernel_rfl
theorem types_Attrs.good (k : Nat) : G 233 ⟨[(HN 3), HI], [(RN 0), HI], fun x => types_Attrs k x.1 x.2.1⟩ := by
 have c := cf (cL.good k) (cf (eo.good k) (cf (lib265.good k) cn))
 have l := ln c Tryz.f233 [] (by kernel_rfl)
 have l := lc c l [] 0 ⟨[7, 20, 21], [(RN 0), HI, HI]⟩ [(.exit 0, ⟨[7], [(RN 0)]⟩)] (fun n x => types_Attrs.l0 x.2.1 n x.1 x.2.2.1) (fun x => (Int.toNat x.2.1 + 1)) (fun x => by kernel_rfl) (fun n x => by kernel_rfl) (by kernel_rfl)
 exact fo c l [] Tryz.func233 (by kernel_rfl) (fun x => by kernel_rfl)
theorem dX.good (k : Nat) : G 186 ⟨[(HN 3), (HN 9), (HN 7)], [(HN 0), HB], fun x => dX k x.1 x.2.1 x.2.2.1⟩ := f0 (cf (aX.good k) (cf (types_Attrs.good k) cn)) [] [] Tryz.func186 (by kernel_rfl) fun x => by kernel_rfl
theorem dA.good (k : Nat) : G 266 ⟨[HI, (HN 6)], [HB], fun x => dA x.1 x.2.1⟩ := f0 cn [] [(1, [(4, .bool)])] Tryz.func266 (by kernel_rfl) fun x => by kernel_rfl
theorem dR.good (k : Nat) : G 234 ⟨[HI, (HN 8)], [HI], fun x => dR x.1 x.2.1⟩ := f0 (cf (dA.good k) cn) [] [(3, [(14, .bool)]), (1, [(5, .bool)])] Tryz.func234 (by kernel_rfl) fun x => by kernel_rfl
theorem difference_Valid.good (k : Nat) : G 187 ⟨[HI, (HL (.nm 8))], [HI], fun x => difference_Valid x.1 x.2.1⟩ := by
 have c := cf (dR.good k) cn
 have l := ln c Tryz.f187 [] (by kernel_rfl)
 have l := lc c l [(1, [(13, .bool)])] 0 ⟨[0, 17, 18, 19], [HI, (HL (.nm 8)), HI, HI]⟩ [(.exit 0, ⟨[], []⟩), (.ret, ⟨[4], [HI]⟩)] (fun n x => difference_Valid.l0 x.1 x.2.1 x.2.2.1 n x.2.2.2.1) (fun x => (Int.toNat x.2.2.1 + 1)) (fun x => by kernel_rfl) (fun n x => by kernel_rfl) (by kernel_rfl)
 exact fo c l [(1, [(13, .bool)])] Tryz.func187 (by kernel_rfl) (fun x => by kernel_rfl)
theorem slices_Index_lbool.good (k : Nat) : G 235 ⟨[(HL .bool), HB], [HI], fun x => slices_Index_lbool x.1 x.2.1⟩ := by
 have c := cn
 have l := ln c Tryz.f235 [] (by kernel_rfl)
 have l := lc c l [] 0 ⟨[0, 1, 7, 8], [(HL .bool), HB, HI, HI]⟩ [(.exit 0, ⟨[], []⟩), (.ret, ⟨[4], [HI]⟩)] (fun n x => slices_Index_lbool.l0 x.1 x.2.1 x.2.2.1 n x.2.2.2.1) (fun x => (Int.toNat x.2.2.1 + 1)) (fun x => by kernel_rfl) (fun n x => by kernel_rfl) (by kernel_rfl)
 exact fo c l [] Tryz.func235 (by kernel_rfl) (fun x => by kernel_rfl)
theorem bW.good (k : Nat) : G 188 ⟨[(HL .bool), HB], [HB], fun x => bW x.1 x.2.1⟩ := f0 (cf (slices_Index_lbool.good k) cn) [] [] Tryz.func188 (by kernel_rfl) fun x => by kernel_rfl
theorem dB.good (k : Nat) : GC 182 ⟨(.pair (.ptr (.nm 3)) .unit), (.pair (.int .i64) .unit), .bool, fun y x => dB x.1 y.1⟩ := c0 cn [] Tryz.func182 (by kernel_rfl) fun x y => by kernel_rfl
theorem dF.good (k : Nat) : GC 184 ⟨(.pair (.ptr (.nm 3)) .unit), (.pair (.nm 4) .unit), .bool, fun y x => dF x.1 y.1⟩ := c0 cn [] Tryz.func184 (by kernel_rfl) fun x y => by kernel_rfl
theorem attribute_Valid.good (k : Nat) : G 149 ⟨[(HN 3), (HN 9)], [HI], fun x => attribute_Valid k x.1 x.2.1⟩ := by
 have c := cf (af.good k) (cf (types_Valid.good k) (cf (cm.good k) (cc (dB.good k) (cf (cZ.good k) (cc (dF.good k) (cf (aX.good k) (cf (dX.good k) (cf (difference_Valid.good k) (cf (bW.good k) cn)))))))))
 have l := ln c Tryz.f149 [] (by kernel_rfl)
 have l := lc c l [(18, [(89, .bool)]), (11, [(53, .bool)]), (7, [(39, .bool)])] 0 ⟨[2, 3, 8, 58, 59, 60], [(.boxh (.nm 3) (HN 3)), (.boxh (.nm 9) (HN 9)), (.rowh .bool), (HL (.nm 7)), HI, HI]⟩ [(.exit 0, ⟨[3, 8], [(.boxh (.nm 9) (HN 9)), (.rowh .bool)]⟩), (.ret, ⟨[4], [HI]⟩)] (fun n x => attribute_Valid.l0 k x.1 x.2.1 x.2.2.2.1 x.2.2.2.2.1 n x.2.2.1 x.2.2.2.2.2.1) (fun x => (Int.toNat x.2.2.2.2.1 + 1)) (fun x => by kernel_rfl) (fun n x => by kernel_rfl) (by kernel_rfl)
 exact fo c l [(18, [(89, .bool)]), (11, [(53, .bool)]), (7, [(39, .bool)])] Tryz.func149 (by kernel_rfl) (fun x => by kernel_rfl)
theorem fN.good (k : Nat) : GC 236 ⟨(.pair (.ptr (.nm 3)) .unit), (.pair (.int .i64) .unit), .bool, fun y x => fN x.1 y.1⟩ := c0 cn [] Tryz.func236 (by kernel_rfl) fun x y => by kernel_rfl
theorem fW.good (k : Nat) : GC 237 ⟨(.pair (.ptr (.nm 3)) .unit), (.pair (.nm 4) .unit), .bool, fun y x => fW x.1 y.1⟩ := c0 cn [] Tryz.func237 (by kernel_rfl) fun x y => by kernel_rfl
theorem fZ.good (k : Nat) : G 189 ⟨[(HN 3), (HN 5)], [HB], fun x => fZ x.1 x.2.1⟩ := f0 (cf (af.good k) (cf (cZ.good k) (cc (fN.good k) (cc (fW.good k) cn)))) [] [(1, [(4, .bool)])] Tryz.func189 (by kernel_rfl) fun x => by kernel_rfl
theorem api_Slot_267.good (k : Nat) : G 267 ⟨[(HL (.nm 7)), (.hole (.fn (.pair (.nm 7) .unit) .bool))], [HI], fun x => api_Slot_267 x.1 x.2.1⟩ := by
 have c := cn
 have l := ln c Tryz.f267 [] (by kernel_rfl)
 have l := lc c l [] 0 ⟨[0, 1, 7, 8], [(HL (.nm 7)), (.hole (.fn (.pair (.nm 7) .unit) .bool)), HI, HI]⟩ [(.exit 0, ⟨[], []⟩), (.ret, ⟨[4], [HI]⟩)] (fun n x => api_Slot_267.l0 x.1 x.2.1 x.2.2.1 n x.2.2.2.1) (fun x => (Int.toNat x.2.2.1 + 1)) (fun x => by kernel_rfl) (fun n x => by kernel_rfl) (by kernel_rfl)
 exact fo c l [] Tryz.func267 (by kernel_rfl) (fun x => by kernel_rfl)
theorem eA.good (k : Nat) : G 238 ⟨[(HL (.nm 7)), (.hole (.fn (.pair (.nm 7) .unit) .bool))], [HB], fun x => eA x.1 x.2.1⟩ := f0 (cf (api_Slot_267.good k) cn) [] [] Tryz.func238 (by kernel_rfl) fun x => by kernel_rfl
theorem fE.good (k : Nat) : GC 239 ⟨(.pair (.ptr (.nm 7)) .unit), (.pair (.nm 7) .unit), .bool, fun y x => fE x.1 y.1⟩ := c0 cn [(1, [(3, .bool)])] Tryz.func239 (by kernel_rfl) fun x y => by kernel_rfl
theorem gY.good (k : Nat) : G 190 ⟨[(HN 3), (HN 13), HI], [HI], fun x => gY k x.1 x.2.1 x.2.2.1⟩ := f0 (cf (types_Attrs.good k) (cf (eA.good k) (cc (fE.good k) cn))) [] [(6, [(77, .bool)]), (2, [(29, .bool)])] Tryz.func190 (by kernel_rfl) fun x => by kernel_rfl
theorem rule_right.good (k : Nat) : G 150 ⟨[(HN 3), (HN 13)], [HI], fun x => rule_right k x.1 x.2.1⟩ := by
 have c := cf (cm.good k) (cf (fZ.good k) (cf (gY.good k) cn))
 have l := ln c Tryz.f150 [] (by kernel_rfl)
 have l := lc c l [(6, [(22, .bool)])] 1 ⟨[2, 3, 46, 47], [(.boxh (.nm 3) (HN 3)), (.boxh (.nm 13) (HN 13)), HI, HI]⟩ [(.exit 1, ⟨[], []⟩), (.ret, ⟨[4], [HI]⟩)] (fun n x => rule_right.l1 k x.1 x.2.1 x.2.2.1 n x.2.2.2.1) (fun x => (Int.toNat x.2.2.1 + 1)) (fun x => by kernel_rfl) (fun n x => by kernel_rfl) (by kernel_rfl)
 exact fo c l [(6, [(22, .bool)])] Tryz.func150 (by kernel_rfl) (fun x => by kernel_rfl)
theorem subgraph_list.good (k : Nat) : G 279 ⟨[(HL (.int .i64)), HI], [HI], fun x => subgraph_list x.1 x.2.1⟩ := by
 have c := cn
 have l := ln c Tryz.f279 [] (by kernel_rfl)
 have l := lc c l [(6, [(31, .bool)]), (4, [(20, .bool)])] 0 ⟨[0, 1, 7, 8, 9], [(HL (.int .i64)), HI, (HL (.int .i64)), HI, HI]⟩ [(.exit 0, ⟨[], []⟩), (.ret, ⟨[4], [HI]⟩)] (fun n x => subgraph_list.l0 x.1 x.2.1 x.2.2.1 x.2.2.2.1 n x.2.2.2.2.1) (fun x => (Int.toNat x.2.2.2.1 + 1)) (fun x => by kernel_rfl) (fun n x => by kernel_rfl) (by kernel_rfl)
 exact fo c l [(6, [(31, .bool)]), (4, [(20, .bool)])] Tryz.func279 (by kernel_rfl) (fun x => by kernel_rfl)
theorem eI.good (k : Nat) : G 254 ⟨[HI], [HB], fun x => eI x.1⟩ := f0 cn [] [] Tryz.func254 (by kernel_rfl) fun x => by kernel_rfl
theorem fP.good (k : Nat) : G 206 ⟨[HI, HI], [HB], fun x => fP x.1 x.2.1⟩ := f0 (cf (eI.good k) cn) [] [(1, [(4, .bool)])] Tryz.func206 (by kernel_rfl) fun x => by kernel_rfl
theorem dm.good (k : Nat) : G 269 ⟨[HI], [HB], fun x => dm x.1⟩ := f0 cn [] [] Tryz.func269 (by kernel_rfl) fun x => by kernel_rfl
theorem slices_BinarySearch_lint.good (k : Nat) : G 241 ⟨[(HL (.int .i64)), HI], [HI, HB], fun x => slices_BinarySearch_lint k x.1 x.2.1⟩ := by
 have c := cf (fP.good k) (cf (dm.good k) cn)
 have l := ln c Tryz.f241 [] (by kernel_rfl)
 have l := lc c l [(8, [(4, (.int .i64)), (5, .bool)])] 0 ⟨[0, 1, 6, 7, 8], [(HL (.int .i64)), HI, HI, HI, HI]⟩ [(.exit 0, ⟨[0, 1, 6, 7], [(HL (.int .i64)), HI, HI, HI]⟩)] (fun n x => slices_BinarySearch_lint.l0 x.1 x.2.1 x.2.2.1 n x.2.2.2.1 x.2.2.2.2.1) (fun x => k) (fun x => by kernel_rfl) (fun n x => by kernel_rfl) (by kernel_rfl)
 exact fo c l [(8, [(4, (.int .i64)), (5, .bool)])] Tryz.func241 (by kernel_rfl) (fun x => by kernel_rfl)
end Go.Ev
end
section
open Go.Proofs
namespace Go.Ev
theorem fc.good (k : Nat) : G 280 ⟨[(HL (.int .i64)), HI], [HB], fun x => fc k x.1 x.2.1⟩ := f0 (cf (slices_BinarySearch_lint.good k) cn) [] [] Tryz.func280 (by kernel_rfl) fun x => by kernel_rfl
theorem subgraph_part.good (k : Nat) : G 268 ⟨[(HN 5), (HN 10)], [HI], fun x => subgraph_part k x.1 x.2.1⟩ := by
 have c := cf (subgraph_list.good k) (cf (fc.good k) cn)
 have l := ln c Tryz.f268 [] (by kernel_rfl)
 have l := lc c l [(10, [(55, .bool)])] 0 ⟨[2, 3, 28, 29, 30], [(.boxh (.nm 5) (HN 5)), (.boxh (.nm 10) (HN 10)), (HL (.int .i64)), HI, HI]⟩ [(.exit 0, ⟨[], []⟩), (.ret, ⟨[4], [HI]⟩)] (fun n x => subgraph_part.l0 k x.1 x.2.1 x.2.2.1 x.2.2.2.1 n x.2.2.2.2.1) (fun x => (Int.toNat x.2.2.2.1 + 1)) (fun x => by kernel_rfl) (fun n x => by kernel_rfl) (by kernel_rfl)
 exact fo c l [(10, [(55, .bool)])] Tryz.func268 (by kernel_rfl) (fun x => by kernel_rfl)
theorem ec.good (k : Nat) : G 240 ⟨[(HN 5), (HN 10)], [HI], fun x => ec k x.1 x.2.1⟩ := f0 (cf (cm.good k) (cf (subgraph_part.good k) cn)) [] [] Tryz.func240 (by kernel_rfl) fun x => by kernel_rfl
theorem subgraph_Extract.good (k : Nat) : G 191 ⟨[(HN 5), (HN 10)], [(.aggh 5 [RI, (RN 4)]), (.aggh 11 [RI, RI]), HI], fun x => subgraph_Extract k x.1 x.2.1⟩ := by
 have c := cf (lib21.good k) (cf (ec.good k) (cf (slices_BinarySearch_lint.good k) cn))
 have l := ln c Tryz.f191 [] (by kernel_rfl)
 have l := lc c l [] 0 ⟨[2, 3, 4, 5, 8, 23, 24, 25], [(.boxh (.nm 5) (HN 5)), (.boxh (.nm 10) (HN 10)), (.boxh (.nm 5) (.aggh 5 [RI, (RN 4)])), (.boxh (.nm 11) (.aggh 11 [RI, RI])), (.boxh (.nm 5) (.aggh 5 [RI, (RN 4)])), (HL (.int .i64)), HI, HI]⟩ [(.exit 0, ⟨[2, 3, 4, 5, 8], [(.boxh (.nm 5) (HN 5)), (.boxh (.nm 10) (HN 10)), (.boxh (.nm 5) (.aggh 5 [RI, (RN 4)])), (.boxh (.nm 11) (.aggh 11 [RI, RI])), (.boxh (.nm 5) (.aggh 5 [RI, (RN 4)]))]⟩)] (fun n x => subgraph_Extract.l0 x.1 x.2.1 x.2.2.1.1 x.2.2.1.2.1 x.2.2.2.1.1 x.2.2.2.1.2.1 x.2.2.2.2.1.2.1 x.2.2.2.2.2.1 x.2.2.2.2.2.2.1 n x.2.2.2.2.1.1 x.2.2.2.2.2.2.2.1) (fun x => (Int.toNat x.2.2.2.2.2.2.1 + 1)) (fun x => by kernel_rfl) (fun n x => by kernel_rfl) (by kernel_rfl)
 have l := lc c l [] 2 ⟨[2, 3, 4, 5, 8, 41, 42, 43], [(.boxh (.nm 5) (HN 5)), (.boxh (.nm 10) (HN 10)), (.boxh (.nm 5) (.aggh 5 [RI, (RN 4)])), (.boxh (.nm 11) (.aggh 11 [RI, RI])), (.boxh (.nm 5) (.aggh 5 [RI, (RN 4)])), (HL (.int .i64)), HI, HI]⟩ [(.exit 2, ⟨[3, 4, 5, 8], [(.boxh (.nm 10) (HN 10)), (.boxh (.nm 5) (.aggh 5 [RI, (RN 4)])), (.boxh (.nm 11) (.aggh 11 [RI, RI])), (.boxh (.nm 5) (.aggh 5 [RI, (RN 4)]))]⟩)] (fun n x => subgraph_Extract.l2 k x.1 x.2.1 x.2.2.1.1 x.2.2.1.2.1 x.2.2.2.1.1 x.2.2.2.1.2.1 x.2.2.2.2.1.1 x.2.2.2.2.2.1 x.2.2.2.2.2.2.1 n x.2.2.2.2.1.2.1 x.2.2.2.2.2.2.2.1) (fun x => (Int.toNat x.2.2.2.2.2.2.1 + 1)) (fun x => by kernel_rfl) (fun n x => by kernel_rfl) (by kernel_rfl)
 exact fo c l [] Tryz.func191 (by kernel_rfl) (fun x => by kernel_rfl)
theorem morphism_Valid.good (k : Nat) : G 192 ⟨[(HN 5), (HN 5), (HN 11)], [HI], fun x => morphism_Valid x.1 x.2.1 x.2.2.1⟩ := by
 have c := cf (cm.good k) cn
 have l := ln c Tryz.f192 [] (by kernel_rfl)
 have l := lc c l [(25, [(121, .bool)]), (20, [(86, .bool)]), (12, [(57, .bool)]), (7, [(40, .bool)])] 0 ⟨[3, 4, 5, 42, 43, 44], [(.boxh (.nm 5) (HN 5)), (.boxh (.nm 5) (HN 5)), (.boxh (.nm 11) (HN 11)), (HL (.int .i64)), HI, HI]⟩ [(.exit 0, ⟨[3, 4, 5], [(.boxh (.nm 5) (HN 5)), (.boxh (.nm 5) (HN 5)), (.boxh (.nm 11) (HN 11))]⟩), (.ret, ⟨[6], [HI]⟩)] (fun n x => morphism_Valid.l0 x.1 x.2.1 x.2.2.1 x.2.2.2.1 x.2.2.2.2.1 n x.2.2.2.2.2.1) (fun x => (Int.toNat x.2.2.2.2.1 + 1)) (fun x => by kernel_rfl) (fun n x => by kernel_rfl) (by kernel_rfl)
 have l := lc c l [(25, [(121, .bool)]), (20, [(86, .bool)]), (12, [(57, .bool)]), (7, [(40, .bool)])] 2 ⟨[3, 4, 5, 71, 72, 73], [(.boxh (.nm 5) (HN 5)), (.boxh (.nm 5) (HN 5)), (.boxh (.nm 11) (HN 11)), (HL (.int .i64)), HI, HI]⟩ [(.exit 2, ⟨[], []⟩), (.ret, ⟨[6], [HI]⟩)] (fun n x => morphism_Valid.l2 x.1 x.2.1 x.2.2.1 x.2.2.2.1 x.2.2.2.2.1 n x.2.2.2.2.2.1) (fun x => (Int.toNat x.2.2.2.2.1 + 1)) (fun x => by kernel_rfl) (fun n x => by kernel_rfl) (by kernel_rfl)
 exact fo c l [(25, [(121, .bool)]), (20, [(86, .bool)]), (12, [(57, .bool)]), (7, [(40, .bool)])] Tryz.func192 (by kernel_rfl) (fun x => by kernel_rfl)
theorem slices_Compact_lint.good (k : Nat) : G 121 ⟨[RI], [RI, (.part 0)], fun x => slices_Compact_lint k x.1⟩ := by
 have c := cn
 have l := ln c Tryz.f121 [0] (by kernel_rfl)
 have l := lc c l [] 2 ⟨[0, 3, 4, 5], [RI, HI, (.part 0), HI]⟩ [(.exit 2, ⟨[0, 3], [RI, HI]⟩)] (fun n x => slices_Compact_lint.l2 n x.1 x.2.1 x.2.2.1.1 x.2.2.1.2 x.2.2.2.1) (fun x => k) (fun x => by kernel_rfl) (fun n x => by kernel_rfl) (by kernel_rfl)
 have l := lc c l [] 0 ⟨[0, 3], [RI, HI]⟩ [(.exit 0, ⟨[0], [RI]⟩), (.ret, ⟨[0, 2], [RI, (.part 0)]⟩)] (fun n x => slices_Compact_lint.l0 k x.1 n x.2.1) (fun x => k) (fun x => by kernel_rfl) (fun n x => by kernel_rfl) (by kernel_rfl)
 exact fo c l [] Tryz.func121 (by kernel_rfl) (fun x => by kernel_rfl)
theorem cO.good (k : Nat) : G 242 ⟨[(HL (.int .i64))], [HI], fun x => cO k x.1⟩ := f0 (cf (lib21.good k) (cf (lib120.good k) (cf (slices_Compact_lint.good k) cn))) [] [] Tryz.func242 (by kernel_rfl) fun x => by kernel_rfl
theorem bL.good (k : Nat) : G 193 ⟨[(HN 5), (HN 5), (HN 11)], [HB], fun x => bL k x.1 x.2.1 x.2.2.1⟩ := f0 (cf (morphism_Valid.good k) (cf (cO.good k) cn)) [] [(1, [(6, .bool)])] Tryz.func193 (by kernel_rfl) fun x => by kernel_rfl
theorem gX.good (k : Nat) : G 151 ⟨[(HN 13)], [HI], fun x => gX k x.1⟩ := f0 (cf (subgraph_Extract.good k) (cf (morphism_Valid.good k) (cf (bL.good k) cn))) [] [] Tryz.func151 (by kernel_rfl) fun x => by kernel_rfl
theorem slices_Reverse_lint.good (k : Nat) : G 281 ⟨[RI], [RI], fun x => slices_Reverse_lint k x.1⟩ := by
 have c := cn
 have l := ln c Tryz.f281 [0] (by kernel_rfl)
 have l := lc c l [] 0 ⟨[0, 2, 3], [RI, HI, HI]⟩ [(.exit 0, ⟨[0], [RI]⟩)] (fun n x => slices_Reverse_lint.l0 n x.1 x.2.1 x.2.2.1) (fun x => k) (fun x => by kernel_rfl) (fun n x => by kernel_rfl) (by kernel_rfl)
 exact fo c l [] Tryz.func281 (by kernel_rfl) (fun x => by kernel_rfl)
theorem types_line.good (k : Nat) : G 271 ⟨[(HN 3), HI], [RI], fun x => types_line k x.1 x.2.1⟩ := by
 have c := cf (slices_Reverse_lint.good k) cn
 have l := ln c Tryz.f271 [] (by kernel_rfl)
 have l := lc c l [] 0 ⟨[1, 2, 5], [HI, (.boxh (.nm 3) (HN 3)), RI]⟩ [(.exit 0, ⟨[5], [RI]⟩)] (fun n x => types_line.l0 x.2.1 n x.1 x.2.2.1) (fun x => k) (fun x => by kernel_rfl) (fun n x => by kernel_rfl) (by kernel_rfl)
 exact fo c l [] Tryz.func271 (by kernel_rfl) (fun x => by kernel_rfl)
theorem hO.good (k : Nat) : G 244 ⟨[(HN 3), HI, HI], [HB], fun x => hO k x.1 x.2.1 x.2.2.1⟩ := f0 (cf (bo.good k) (cf (types_line.good k) cn)) [] [] Tryz.func244 (by kernel_rfl) fun x => by kernel_rfl
theorem gn.good (k : Nat) : G 196 ⟨[(HN 3), HI, HI, HI], [HB], fun x => gn k x.1 x.2.1 x.2.2.1 x.2.2.2.1⟩ := f0 (cf (eo.good k) (cf (hO.good k) cn)) [] [(3, [(8, .bool)]), (1, [(25, .bool)])] Tryz.func196 (by kernel_rfl) fun x => by kernel_rfl
theorem eh.good (k : Nat) : GC 194 ⟨(.pair (.ptr (.nm 3)) (.pair (.ptr (.nm 5)) .unit)), (.pair (.int .i64) .unit), .bool, fun y x => eh x.1 y.1 y.2.1⟩ := c0 cn [] Tryz.func194 (by kernel_rfl) fun x y => by kernel_rfl
theorem ee.good (k : Nat) : GC 195 ⟨(.pair (.ptr (.nm 5)) (.pair (.ptr (.nm 3)) .unit)), (.pair (.int .i64) .unit), .bool, fun y x => ee k x.1 y.1 y.2.1⟩ := c0 (cf (gn.good k) cn) [] Tryz.func195 (by kernel_rfl) fun x y => by kernel_rfl
theorem fe.good (k : Nat) : G 152 ⟨[(HN 3), (HN 5), (HL (.int .i64)), (HL (.int .i64))], [HB], fun x => fe k x.1 x.2.1 x.2.2.1 x.2.2.2.1⟩ := f0 (cf (af.good k) (cc (eh.good k) (cc (ee.good k) cn))) [] [(1, [(8, .bool)])] Tryz.func152 (by kernel_rfl) fun x => by kernel_rfl
theorem cy.good (k : Nat) : G 272 ⟨[(HN 12)], [HB], fun x => cy x.1⟩ := f0 cn [] [(2, [(2, .bool)])] Tryz.func272 (by kernel_rfl) fun x => by kernel_rfl
theorem api_Condition_282.good (k : Nat) : G 282 ⟨[(HL (.nm 12)), (.hole (.fn (.pair (.nm 12) .unit) .bool))], [HI], fun x => api_Condition_282 x.1 x.2.1⟩ := by
 have c := cn
 have l := ln c Tryz.f282 [] (by kernel_rfl)
 have l := lc c l [] 0 ⟨[0, 1, 7, 8], [(HL (.nm 12)), (.hole (.fn (.pair (.nm 12) .unit) .bool)), HI, HI]⟩ [(.exit 0, ⟨[], []⟩), (.ret, ⟨[4], [HI]⟩)] (fun n x => api_Condition_282.l0 x.1 x.2.1 x.2.2.1 n x.2.2.2.1) (fun x => (Int.toNat x.2.2.1 + 1)) (fun x => by kernel_rfl) (fun n x => by kernel_rfl) (by kernel_rfl)
 exact fo c l [] Tryz.func282 (by kernel_rfl) (fun x => by kernel_rfl)
theorem bm.good (k : Nat) : G 273 ⟨[(HL (.nm 12)), (.hole (.fn (.pair (.nm 12) .unit) .bool))], [HB], fun x => bm x.1 x.2.1⟩ := f0 (cf (api_Condition_282.good k) cn) [] [] Tryz.func273 (by kernel_rfl) fun x => by kernel_rfl
theorem az.good (k : Nat) (rec_ : ae → Option (Bool × Unit)) (h : G 245 ⟨[(HN 12)], [HB], fun x => rec_ x.1⟩) : GC 274 ⟨.unit, (.pair (.nm 12) .unit), .bool, fun y x => az rec_ x.1⟩ := c0 (cf (h) cn) [] Tryz.func274 (by kernel_rfl) fun x y => by kernel_rfl
theorem an.good : ∀ k : Nat, G 245 ⟨[(HN 12)], [HB], fun x => an k x.1⟩
 | 0 => dK Tryz.func245 (c := ep Tryz.f245) (by kernel_rfl) (by kernel_rfl) fun _ => rfl
 | k + 1 => by
  have h := an.good k
  exact f0 (cf (cy.good k) (cf (bm.good k) (cc (az.good k (an k) h) cn))) [] [(13, [(2, .bool)]), (5, [(4, .bool)]), (7, [(4, .bool)]), (10, [(4, .bool)])] Tryz.func245 (by kernel_rfl) fun x => by kernel_rfl
theorem condition_measure.good : ∀ k : Nat, G 246 ⟨[(HN 12)], [HI, HI], fun x => condition_measure k x.1⟩
 | 0 => dK Tryz.func246 (c := ep Tryz.f246) (by kernel_rfl) (by kernel_rfl) fun _ => rfl
 | k + 1 => by
  have h := condition_measure.good k
  have c := cf (h) cn
  have l := ln c Tryz.f246 [] (by kernel_rfl)
  have l := lc c l [] 0 ⟨[1, 4, 5, 11, 12, 13], [(.boxh (.nm 12) (HN 12)), HI, HI, (HL (.nm 12)), HI, HI]⟩ [(.exit 0, ⟨[1, 4, 5], [(.boxh (.nm 12) (HN 12)), HI, HI]⟩)] (fun n x => condition_measure.l0 (condition_measure k) x.1 x.2.2.2.1 x.2.2.2.2.1 n x.2.1 x.2.2.1 x.2.2.2.2.2.1) (fun x => (Int.toNat x.2.2.2.2.1 + 1)) (fun x => by kernel_rfl) (fun n x => by kernel_rfl) (by kernel_rfl)
  exact fo c l [] Tryz.func246 (by kernel_rfl) (fun x => by kernel_rfl)
theorem dy.good (k : Nat) : G 197 ⟨[(HN 12)], [HI], fun x => dy k x.1⟩ := f0 (cf (an.good k) (cf (condition_measure.good k) cn)) [] [(4, [(18, .bool)])] Tryz.func197 (by kernel_rfl) fun x => by kernel_rfl
theorem cY.good (k : Nat) : GC 275 ⟨(.pair (.ptr (.int .i64)) .unit), (.pair (.nm 7) .unit), .bool, fun y x => cY x.1 y.1⟩ := c0 cn [] Tryz.func275 (by kernel_rfl) fun x y => by kernel_rfl
theorem condition_pattern.good (k : Nat) : G 247 ⟨[(HN 3), (HN 9), HI], [HI], fun x => condition_pattern k x.1 x.2.1 x.2.2.1⟩ := by
 have c := cf (attribute_Valid.good k) (cf (eA.good k) (cc (cY.good k) cn))
 have l := ln c Tryz.f247 [] (by kernel_rfl)
 have l := lc c l [] 0 ⟨[4, 7, 8], [(.boxh (.nm 9) (HN 9)), HI, (.boxh (.int .i64) HI)]⟩ [(.exit 0, ⟨[], []⟩), (.ret, ⟨[6], [HI]⟩)] (fun n x => condition_pattern.l0 x.1 x.2.1 n x.2.2.1) (fun x => k) (fun x => by kernel_rfl) (fun n x => by kernel_rfl) (by kernel_rfl)
 exact fo c l [] Tryz.func247 (by kernel_rfl) (fun x => by kernel_rfl)
theorem condition_inside.good : ∀ k : Nat, G 198 ⟨[(HN 3), (HN 9), (HN 12)], [HI], fun x => condition_inside k x.1 x.2.1 x.2.2.1⟩
 | 0 => dK Tryz.func198 (c := ep Tryz.f198) (by kernel_rfl) (by kernel_rfl) fun _ => rfl
 | k + 1 => by
  have h := condition_inside.good k
  have c := cf (morphism_Valid.good k) (cf (bL.good k) (cf (h) (cf (condition_pattern.good k) cn)))
  have l := ln c Tryz.f198 [] (by kernel_rfl)
  have l := lc c l [] 0 ⟨[3, 4, 51, 52, 53], [(.boxh (.nm 3) (HN 3)), (.boxh (.nm 9) (HN 9)), (HL (.nm 12)), HI, HI]⟩ [(.exit 0, ⟨[], []⟩), (.ret, ⟨[6], [HI]⟩)] (fun n x => condition_inside.l0 (condition_inside k) x.1 x.2.1 x.2.2.1 x.2.2.2.1 n x.2.2.2.2.1) (fun x => (Int.toNat x.2.2.2.1 + 1)) (fun x => by kernel_rfl) (fun n x => by kernel_rfl) (by kernel_rfl)
  exact fo c l [] Tryz.func198 (by kernel_rfl) (fun x => by kernel_rfl)
theorem dx.good (k : Nat) : G 153 ⟨[(HN 3), (HN 9), (HN 12)], [HI], fun x => dx k x.1 x.2.1 x.2.2.1⟩ := f0 (cf (attribute_Valid.good k) (cf (dy.good k) (cf (condition_inside.good k) cn))) [] [] Tryz.func153 (by kernel_rfl) fun x => by kernel_rfl
theorem eS.good (k : Nat) : G 116 ⟨[(HN 3), (HN 13)], [HI], fun x => eS k x.1 x.2.1⟩ := f0 (cf (types_Valid.good k) (cf (bF.good k) (cf (dI.good k) (cf (attribute_Valid.good k) (cf (rule_right.good k) (cf (gX.good k) (cf (fe.good k) (cf (dx.good k) cn)))))))) [] [] Tryz.func116 (by kernel_rfl) fun x => by kernel_rfl
theorem ff.good (k : Nat) : G 117 ⟨[(HN 13)], [RI, RI], fun x => ff x.1⟩ := f0 (cf (rule_others.good k) cn) [] [] Tryz.func117 (by kernel_rfl) fun x => by kernel_rfl
theorem eX.good (k : Nat) : G 84 ⟨[(HN 3), (HN 13)], [RI, RI, HI], fun x => eX k x.1 x.2.1⟩ := f0 (cf (eS.good k) (cf (ff.good k) cn)) [] [] Tryz.func84 (by kernel_rfl) fun x => by kernel_rfl
theorem eZ.good (k : Nat) : G 87 ⟨[(HN 3), (HN 13)], [RI, RI, HI], fun x => eZ k x.1 x.2.1⟩ := f0 (cf (eS.good k) (cf (dI.good k) cn)) [] [] Tryz.func87 (by kernel_rfl) fun x => by kernel_rfl
theorem layering_places.good (k : Nat) : G 88 ⟨[(HN 3), (HN 5), (HL (.int .i64)), (HL (.int .i64))], [(HL (.int .i64))], fun x => layering_places k x.1 x.2.1 x.2.2.1 x.2.2.2.1⟩ := by
 have c := cf (lib120.good k) (cf (slices_Compact_lint.good k) cn)
 have l := ln c Tryz.f88 [] (by kernel_rfl)
 have l := lc c l [] 0 ⟨[3, 4, 5, 9, 14, 15, 16], [(HL (.int .i64)), (.boxh (.nm 3) (HN 3)), (.boxh (.nm 5) (HN 5)), RI, (HL (.int .i64)), HI, HI]⟩ [(.exit 0, ⟨[3, 4, 5, 9], [(HL (.int .i64)), (.boxh (.nm 3) (HN 3)), (.boxh (.nm 5) (HN 5)), RI]⟩)] (fun n x => layering_places.l0 x.1 x.2.1 x.2.2.1 x.2.2.2.2.1 x.2.2.2.2.2.1 n x.2.2.2.1 x.2.2.2.2.2.2.1) (fun x => (Int.toNat x.2.2.2.2.2.1 + 1)) (fun x => by kernel_rfl) (fun n x => by kernel_rfl) (by kernel_rfl)
 have l := lc c l [] 2 ⟨[4, 5, 9, 29, 30, 31], [(.boxh (.nm 3) (HN 3)), (.boxh (.nm 5) (HN 5)), RI, (HL (.int .i64)), HI, HI]⟩ [(.exit 2, ⟨[9], [RI]⟩)] (fun n x => layering_places.l2 x.1 x.2.1 x.2.2.2.1 x.2.2.2.2.1 n x.2.2.1 x.2.2.2.2.2.1) (fun x => (Int.toNat x.2.2.2.2.1 + 1)) (fun x => by kernel_rfl) (fun n x => by kernel_rfl) (by kernel_rfl)
 exact fo c l [] Tryz.func88 (by kernel_rfl) (fun x => by kernel_rfl)
theorem eL.good (k : Nat) : GC 86 ⟨(.pair (.ptr (.nm 13)) (.pair (.ptr (.int .i64)) .unit)), (.pair (.nm 1) .unit), .bool, fun y x => eL x.1 y.1 y.2.1⟩ := c0 cn [] Tryz.func86 (by kernel_rfl) fun x y => by kernel_rfl
theorem layering_of.good (k : Nat) : G 59 ⟨[(HN 3), (HN 13)], [(HN 22), HI], fun x => layering_of k x.1 x.2.1⟩ := by
 have c := cf (eX.good k) (cf (cQ.good k) (cc (eL.good k) (cf (eZ.good k) (cf (layering_places.good k) cn))))
 have l := ln c Tryz.f59 [] (by kernel_rfl)
 have l := lc c l [] 0 ⟨[2, 3, 4, 6, 7, 25, 26, 27], [(.boxh (.nm 3) (HN 3)), (.boxh (.nm 13) (HN 13)), (.boxh (.nm 22) (.aggh 22 [RI, RI])), RI, RI, (.same 5), HI, HI]⟩ [(.exit 0, ⟨[2, 3, 4, 6, 7], [(.boxh (.nm 3) (HN 3)), (.boxh (.nm 13) (HN 13)), (.boxh (.nm 22) (.aggh 22 [RI, RI])), RI, RI]⟩), (.ret, ⟨[4, 5], [(.boxh (.nm 22) (.aggh 22 [RI, RI])), HI]⟩)] (fun n x => layering_of.l0 x.1 x.2.1 x.2.2.1.1 x.2.2.1.2.1 x.2.2.2.1 x.2.2.2.2.1 x.2.2.2.2.2.2.1 n x.2.2.2.2.2.2.2.1) (fun x => (Int.toNat x.2.2.2.2.2.2.1 + 1)) (fun x => by kernel_rfl) (fun n x => by kernel_rfl) (by kernel_rfl)
 exact fo c l [] Tryz.func59 (by kernel_rfl) (fun x => by kernel_rfl)
theorem layering_given.good (k : Nat) : G 29 ⟨[(HN 3), (HL (.nm 13))], [(RN 22), HI], fun x => layering_given k x.1 x.2.1⟩ := by
 have c := cf (types_Valid.good k) (cf (layering_of.good k) cn)
 have l := ln c Tryz.f29 [] (by kernel_rfl)
 have l := lc c l [] 0 ⟨[2, 8, 24, 25, 26], [(.boxh (.nm 3) (HN 3)), (RN 22), (HL (.nm 13)), HI, HI]⟩ [(.exit 0, ⟨[8], [(RN 22)]⟩), (.ret, ⟨[4, 5], [(RN 22), HI]⟩)] (fun n x => layering_given.l0 k x.1 x.2.2.1 x.2.2.2.1 n x.2.1 x.2.2.2.2.1) (fun x => (Int.toNat x.2.2.2.1 + 1)) (fun x => by kernel_rfl) (fun n x => by kernel_rfl) (by kernel_rfl)
 exact fo c l [] Tryz.func29 (by kernel_rfl) (fun x => by kernel_rfl)
theorem layering_effect_30.good (k : Nat) : G 30 ⟨[(HL (.nm 22)), (.hole (.fn (.pair (.nm 22) .unit) .bool))], [HI], fun x => layering_effect_30 x.1 x.2.1⟩ := by
 have c := cn
 have l := ln c Tryz.f30 [] (by kernel_rfl)
 have l := lc c l [] 0 ⟨[0, 1, 7, 8], [(HL (.nm 22)), (.hole (.fn (.pair (.nm 22) .unit) .bool)), HI, HI]⟩ [(.exit 0, ⟨[], []⟩), (.ret, ⟨[4], [HI]⟩)] (fun n x => layering_effect_30.l0 x.1 x.2.1 x.2.2.1 n x.2.2.2.1) (fun x => (Int.toNat x.2.2.1 + 1)) (fun x => by kernel_rfl) (fun n x => by kernel_rfl) (by kernel_rfl)
 exact fo c l [] Tryz.func30 (by kernel_rfl) (fun x => by kernel_rfl)
theorem kn.good (k : Nat) : G 157 ⟨[(.hole (.int .u32)), (.hole (.int .u32))], [(.hole (.int .u32)), (.hole (.int .u32))], fun x => kn x.1 x.2.1⟩ := f0 cn [] [] Tryz.func157 (by kernel_rfl) fun x => by kernel_rfl
theorem j4.good (k : Nat) : G 158 ⟨[(.hole (.int .u64)), (.hole (.int .u64))], [(.hole (.int .u64)), (.hole (.int .u64))], fun x => j4 x.1 x.2.1⟩ := f0 cn [] [] Tryz.func158 (by kernel_rfl) fun x => by kernel_rfl
theorem kF.good (k : Nat) : G 122 ⟨[(.hole (.int .u64)), (.hole (.int .u64))], [(.hole (.int .u64)), (.hole (.int .u64))], fun x => kF x.1 x.2.1⟩ := f0 (cf (kn.good k) (cf (j4.good k) cn)) [] [] Tryz.func122 (by kernel_rfl) fun x => by kernel_rfl
theorem slices_Repeat_lint.good (k : Nat) : G 89 ⟨[(HL (.int .i64)), HI], [RI], fun x => slices_Repeat_lint k x.1 x.2.1⟩ := by
 have c := cf (kF.good k) cn
 have l := ln c Tryz.f89 [] (by kernel_rfl)
 have l := lc c l [(4, [(26, .bool)])] 0 ⟨[7, 8], [RI, HI]⟩ [(.exit 0, ⟨[7], [RI]⟩)] (fun n x => slices_Repeat_lint.l0 n x.1 x.2.1) (fun x => k) (fun x => by kernel_rfl) (fun n x => by kernel_rfl) (by kernel_rfl)
 exact fo c l [(4, [(26, .bool)])] Tryz.func89 (by kernel_rfl) (fun x => by kernel_rfl)
theorem layering_distances.good (k : Nat) : G 60 ⟨[(HL (.nm 14)), HI, HI], [RI], fun x => layering_distances k x.1 x.2.1 x.2.2.1⟩ := by
 have c := cf (slices_Repeat_lint.good k) cn
 have l := ln c Tryz.f60 [] (by kernel_rfl)
 have l := lc c l [(9, [(43, .bool)])] 2 ⟨[0, 7, 8, 24, 25, 26], [(HL (.nm 14)), RI, RI, (HL (.nm 14)), HI, HI]⟩ [(.exit 2, ⟨[0, 7, 8], [(HL (.nm 14)), RI, RI]⟩)] (fun n x => layering_distances.l2 x.1 x.2.2.2.1 x.2.2.2.2.1 n x.2.1 x.2.2.1 x.2.2.2.2.2.1) (fun x => (Int.toNat x.2.2.2.2.1 + 1)) (fun x => by kernel_rfl) (fun n x => by kernel_rfl) (by kernel_rfl)
 have l := lc c l [(9, [(43, .bool)])] 0 ⟨[0, 7, 8], [(HL (.nm 14)), RI, RI]⟩ [(.exit 0, ⟨[7], [RI]⟩)] (fun n x => layering_distances.l0 n x.1 x.2.1 x.2.2.1) (fun x => k) (fun x => by kernel_rfl) (fun n x => by kernel_rfl) (by kernel_rfl)
 exact fo c l [(9, [(43, .bool)])] Tryz.func60 (by kernel_rfl) (fun x => by kernel_rfl)
theorem api_Demand_61.good (k : Nat) : G 61 ⟨[(HL (.nm 14)), (.hole (.fn (.pair (.nm 14) .unit) .bool))], [HI], fun x => api_Demand_61 x.1 x.2.1⟩ := by
 have c := cn
 have l := ln c Tryz.f61 [] (by kernel_rfl)
 have l := lc c l [] 0 ⟨[0, 1, 7, 8], [(HL (.nm 14)), (.hole (.fn (.pair (.nm 14) .unit) .bool)), HI, HI]⟩ [(.exit 0, ⟨[], []⟩), (.ret, ⟨[4], [HI]⟩)] (fun n x => api_Demand_61.l0 x.1 x.2.1 x.2.2.1 n x.2.2.2.1) (fun x => (Int.toNat x.2.2.1 + 1)) (fun x => by kernel_rfl) (fun n x => by kernel_rfl) (by kernel_rfl)
 exact fo c l [] Tryz.func61 (by kernel_rfl) (fun x => by kernel_rfl)
theorem eO.good (k : Nat) : GC 62 ⟨(.pair (.ptr (.int .i64)) (.pair (.ptr (.slice (.int .i64))) .unit)), (.pair (.nm 14) .unit), .bool, fun y x => eO x.1 y.1 y.2.1⟩ := c0 cn [(1, [(4, .bool)])] Tryz.func62 (by kernel_rfl) fun x y => by kernel_rfl
theorem layering_circle.good (k : Nat) : G 32 ⟨[(HL (.nm 14)), HI], [(RN 14)], fun x => layering_circle k x.1 x.2.1⟩ := by
 have c := cf (layering_distances.good k) (cf (api_Demand_61.good k) (cc (eO.good k) cn))
 have l := ln c Tryz.f32 [] (by kernel_rfl)
 have l := lc c l [(6, [(43, .bool)])] 2 ⟨[0, 1, 5, 7, 8, 9, 11, 12, 13], [(HL (.nm 14)), HI, (RN 14), (.boxh (.nm 14) (HN 14)), (.boxh (.slice (.int .i64)) RI), (.boxh (.int .i64) HI), (HL (.nm 14)), HI, HI]⟩ [(.exit 2, ⟨[0, 1, 5, 11, 12, 13], [(HL (.nm 14)), HI, (RN 14), (HL (.nm 14)), HI, HI]⟩)] (fun n x => layering_circle.l2 x.1 x.2.1 x.2.2.2.1 x.2.2.2.2.1 x.2.2.2.2.2.2.1 x.2.2.2.2.2.2.2.1 x.2.2.2.2.2.2.2.2.1 n x.2.2.1 x.2.2.2.2.2.1) (fun x => k) (fun x => by kernel_rfl) (fun n x => by kernel_rfl) (by kernel_rfl)
 have l := lc c l [(6, [(43, .bool)])] 0 ⟨[0, 1, 5, 11, 12, 13], [(HL (.nm 14)), HI, (RN 14), (HL (.nm 14)), HI, HI]⟩ [(.exit 0, ⟨[5], [(RN 14)]⟩)] (fun n x => layering_circle.l0 k n x.1 x.2.1 x.2.2.1 x.2.2.2.1 x.2.2.2.2.1 x.2.2.2.2.2.1) (fun x => k) (fun x => by kernel_rfl) (fun n x => by kernel_rfl) (by kernel_rfl)
 exact fo c l [(6, [(43, .bool)])] Tryz.func32 (by kernel_rfl) (fun x => by kernel_rfl)
theorem layering_demands.good (k : Nat) : G 33 ⟨[(HL (.nm 22))], [(RN 14)], fun x => layering_demands k x.1⟩ := by
 have c := cn
 have l := ln c Tryz.f33 [] (by kernel_rfl)
 have l := lc c l [] 4 ⟨[3, 4, 5, 7, 10, 11, 12, 18, 19, 20, 25, 26, 27], [(RN 14), HI, (.boxh (.nm 22) (HN 22)), HI, (HL (.nm 22)), HI, HI, (HL (.int .i64)), HI, HI, (HL (.int .i64)), HI, HI]⟩ [(.exit 4, ⟨[3, 4, 5, 10, 11, 12, 18, 19, 20], [(RN 14), HI, (.boxh (.nm 22) (HN 22)), (HL (.nm 22)), HI, HI, (HL (.int .i64)), HI, HI]⟩)] (fun n x => layering_demands.l4 x.2.1 x.2.2.1 x.2.2.2.1 x.2.2.2.2.1 x.2.2.2.2.2.1 x.2.2.2.2.2.2.1 x.2.2.2.2.2.2.2.1 x.2.2.2.2.2.2.2.2.1 x.2.2.2.2.2.2.2.2.2.1 x.2.2.2.2.2.2.2.2.2.2.1 x.2.2.2.2.2.2.2.2.2.2.2.1 n x.1 x.2.2.2.2.2.2.2.2.2.2.2.2.1) (fun x => (Int.toNat x.2.2.2.2.2.2.2.2.2.2.2.1 + 1)) (fun x => by kernel_rfl) (fun n x => by kernel_rfl) (by kernel_rfl)
 have l := lc c l [] 2 ⟨[3, 4, 5, 10, 11, 12, 18, 19, 20], [(RN 14), HI, (.boxh (.nm 22) (HN 22)), (HL (.nm 22)), HI, HI, (HL (.int .i64)), HI, HI]⟩ [(.exit 2, ⟨[3, 10, 11, 12], [(RN 14), (HL (.nm 22)), HI, HI]⟩)] (fun n x => layering_demands.l2 n x.1 x.2.1 x.2.2.1 x.2.2.2.1 x.2.2.2.2.1 x.2.2.2.2.2.1 x.2.2.2.2.2.2.1 x.2.2.2.2.2.2.2.1 x.2.2.2.2.2.2.2.2.1) (fun x => k) (fun x => by kernel_rfl) (fun n x => by kernel_rfl) (by kernel_rfl)
 have l := lc c l [] 0 ⟨[3, 10, 11, 12], [(RN 14), (HL (.nm 22)), HI, HI]⟩ [(.exit 0, ⟨[3], [(RN 14)]⟩)] (fun n x => layering_demands.l0 k n x.1 x.2.1 x.2.2.1 x.2.2.2.1) (fun x => k) (fun x => by kernel_rfl) (fun n x => by kernel_rfl) (by kernel_rfl)
 exact fo c l [] Tryz.func33 (by kernel_rfl) (fun x => by kernel_rfl)
end Go.Ev
end
section
open Go.Proofs
namespace Go.Ev
theorem eN.good (k : Nat) : GC 31 ⟨.unit, (.pair (.nm 22) .unit), .bool, fun y x => eN x.1⟩ := c0 cn [] Tryz.func31 (by kernel_rfl) fun x y => by kernel_rfl
theorem fq.good (k : Nat) : G 10 ⟨[(HN 3), (HL (.nm 13))], [(RN 14), HI], fun x => fq k x.1 x.2.1⟩ := f0 (cf (layering_given.good k) (cf (layering_effect_30.good k) (cc (eN.good k) (cf (layering_circle.good k) (cf (layering_demands.good k) cn))))) [] [] Tryz.func10 (by kernel_rfl) fun x => by kernel_rfl
theorem api_Demand_13.good (k : Nat) : G 13 ⟨[(HL (.nm 14)), (HL (.nm 14))], [HB], fun x => api_Demand_13 x.1 x.2.1⟩ := by
 have c := cn
 have l := ln c Tryz.f13 [] (by kernel_rfl)
 have l := lc c l [] 0 ⟨[0, 1, 12, 13], [(HL (.nm 14)), (HL (.nm 14)), HI, HI]⟩ [(.exit 0, ⟨[], []⟩), (.ret, ⟨[4], [HB]⟩)] (fun n x => api_Demand_13.l0 x.1 x.2.1 x.2.2.1 n x.2.2.2.1) (fun x => (Int.toNat x.2.2.1 + 1)) (fun x => by kernel_rfl) (fun n x => by kernel_rfl) (by kernel_rfl)
 exact fo c l [] Tryz.func13 (by kernel_rfl) (fun x => by kernel_rfl)
theorem et.good (k : Nat) : G 68 ⟨[(HL (.nm 22)), (.hole (.fn (.pair (.nm 22) .unit) .bool))], [HB], fun x => et x.1 x.2.1⟩ := f0 (cf (layering_effect_30.good k) cn) [] [] Tryz.func68 (by kernel_rfl) fun x => by kernel_rfl
theorem f7.good (k : Nat) : GC 69 ⟨.unit, (.pair (.nm 22) .unit), .bool, fun y x => f7 x.1⟩ := c0 cn [] Tryz.func69 (by kernel_rfl) fun x y => by kernel_rfl
theorem layering_least.good (k : Nat) : G 39 ⟨[(HL (.nm 22)), HI], [RI, RI, HB], fun x => layering_least k x.1 x.2.1⟩ := by
 have c := cf (et.good k) (cc (f7.good k) cn)
 have l := ln c Tryz.f39 [] (by kernel_rfl)
 have l := lc c l [] 4 ⟨[0, 7, 8, 9, 10, 11, 24, 25, 26, 32, 33, 34], [(HL (.nm 22)), RI, RI, HB, HI, (.boxh (.nm 22) (HN 22)), (HL (.nm 22)), HI, HI, (HL (.int .i64)), HI, HI]⟩ [(.exit 4, ⟨[0, 7, 8, 9, 10, 11, 24, 25, 26], [(HL (.nm 22)), RI, RI, HB, HI, (.boxh (.nm 22) (HN 22)), (HL (.nm 22)), HI, HI]⟩)] (fun n x => layering_least.l4 x.1 x.2.2.1 x.2.2.2.2.1 x.2.2.2.2.2.1 x.2.2.2.2.2.2.1 x.2.2.2.2.2.2.2.1 x.2.2.2.2.2.2.2.2.1 x.2.2.2.2.2.2.2.2.2.1 x.2.2.2.2.2.2.2.2.2.2.1 n x.2.1 x.2.2.2.1 x.2.2.2.2.2.2.2.2.2.2.2.1) (fun x => (Int.toNat x.2.2.2.2.2.2.2.2.2.2.1 + 1)) (fun x => by kernel_rfl) (fun n x => by kernel_rfl) (by kernel_rfl)
 have l := lc c l [] 6 ⟨[0, 7, 8, 9, 10, 24, 25, 26, 56, 57, 58], [(HL (.nm 22)), RI, RI, HB, HI, (HL (.nm 22)), HI, HI, (HL (.int .i64)), HI, HI]⟩ [(.exit 6, ⟨[0, 7, 8, 9, 10, 24, 25, 26], [(HL (.nm 22)), RI, RI, HB, HI, (HL (.nm 22)), HI, HI]⟩)] (fun n x => layering_least.l6 x.1 x.2.1 x.2.2.2.2.1 x.2.2.2.2.2.1 x.2.2.2.2.2.2.1 x.2.2.2.2.2.2.2.1 x.2.2.2.2.2.2.2.2.1 x.2.2.2.2.2.2.2.2.2.1 n x.2.2.1 x.2.2.2.1 x.2.2.2.2.2.2.2.2.2.2.1) (fun x => (Int.toNat x.2.2.2.2.2.2.2.2.2.1 + 1)) (fun x => by kernel_rfl) (fun n x => by kernel_rfl) (by kernel_rfl)
 have l := lc c l [] 2 ⟨[0, 7, 8, 9, 24, 25, 26], [(HL (.nm 22)), RI, RI, HB, (HL (.nm 22)), HI, HI]⟩ [(.exit 2, ⟨[0, 7, 8, 9], [(HL (.nm 22)), RI, RI, HB]⟩), (.ret, ⟨[4, 5, 6], [RI, RI, HB]⟩)] (fun n x => layering_least.l2 n x.1 x.2.1 x.2.2.1 x.2.2.2.1 x.2.2.2.2.1 x.2.2.2.2.2.1 x.2.2.2.2.2.2.1) (fun x => k) (fun x => by kernel_rfl) (fun n x => by kernel_rfl) (by kernel_rfl)
 have l := lc c l [] 0 ⟨[0, 7, 8, 9], [(HL (.nm 22)), RI, RI, HB]⟩ [(.exit 0, ⟨[7, 8], [RI, RI]⟩), (.ret, ⟨[4, 5, 6], [RI, RI, HB]⟩)] (fun n x => layering_least.l0 k n x.1 x.2.1 x.2.2.1 x.2.2.2.1) (fun x => k) (fun x => by kernel_rfl) (fun n x => by kernel_rfl) (by kernel_rfl)
 exact fo c l [] Tryz.func39 (by kernel_rfl) (fun x => by kernel_rfl)
theorem fp.good (k : Nat) : G 14 ⟨[(HN 3), (HL (.nm 13))], [(.aggh 15 [RI, (HL (.int .i64)), (HL (.int .i64))]), HI], fun x => fp k x.1 x.2.1⟩ := f0 (cf (layering_given.good k) (cf (layering_least.good k) cn)) [] [] Tryz.func14 (by kernel_rfl) fun x => by kernel_rfl
theorem cN.good (k : Nat) : G 24 ⟨[], [(.aggh 3 [(RN 1), (RN 2)])], fun x => cN⟩ := f0 cn [] [] Tryz.func24 (by kernel_rfl) fun x => by kernel_rfl
theorem cj.good (k : Nat) : G 25 ⟨[HI], [(HN 13)], fun x => cj x.1⟩ := f0 cn [] [] Tryz.func25 (by kernel_rfl) fun x => by kernel_rfl
theorem slices_Equal_lint.good (k : Nat) : G 26 ⟨[(HL (.int .i64)), (HL (.int .i64))], [HB], fun x => slices_Equal_lint x.1 x.2.1⟩ := by
 have c := cn
 have l := ln c Tryz.f26 [] (by kernel_rfl)
 have l := lc c l [] 0 ⟨[0, 1, 12, 13], [(HL (.int .i64)), (HL (.int .i64)), HI, HI]⟩ [(.exit 0, ⟨[], []⟩), (.ret, ⟨[4], [HB]⟩)] (fun n x => slices_Equal_lint.l0 x.1 x.2.1 x.2.2.1 n x.2.2.2.1) (fun x => (Int.toNat x.2.2.1 + 1)) (fun x => by kernel_rfl) (fun n x => by kernel_rfl) (by kernel_rfl)
 exact fo c l [] Tryz.func26 (by kernel_rfl) (fun x => by kernel_rfl)
theorem bA.good (k : Nat) : G 8 ⟨[], [HB], fun x => bA k⟩ := f0 (cf (fq.good k) (cf (api_Demand_13.good k) (cf (fp.good k) (cf (cN.good k) (cf (cj.good k) (cf (slices_Equal_lint.good k) cn)))))) [] [(5, [(0, .bool)])] Tryz.func8 (by kernel_rfl) fun x => by kernel_rfl
theorem scarfjointref04_Few.good (k : Nat) : G 27 ⟨[(HN 3)], [HB], fun x => scarfjointref04_Few k x.1⟩ := by
 have c := cn
 have l := ln c Tryz.f27 [] (by kernel_rfl)
 have l := lc c l [(14, [(76, .bool)]), (8, [(46, .bool)]), (1, [(18, .bool)])] 4 ⟨[1, 3, 4, 5, 6, 7], [(.boxh (.nm 3) (HN 3)), HI, HI, HI, (.boxh (.nm 0) (HN 0)), HI]⟩ [(.exit 4, ⟨[1, 3, 4, 5], [(.boxh (.nm 3) (HN 3)), HI, HI, HI]⟩), (.ret, ⟨[2], [HB]⟩)] (fun n x => scarfjointref04_Few.l4 x.1 x.2.1 x.2.2.1 x.2.2.2.1 x.2.2.2.2.1 n x.2.2.2.2.2.1) (fun x => k) (fun x => by kernel_rfl) (fun n x => by kernel_rfl) (by kernel_rfl)
 have l := lc c l [(14, [(76, .bool)]), (8, [(46, .bool)]), (1, [(18, .bool)])] 2 ⟨[1, 3, 4, 5], [(.boxh (.nm 3) (HN 3)), HI, HI, HI]⟩ [(.exit 2, ⟨[1, 3, 4], [(.boxh (.nm 3) (HN 3)), HI, HI]⟩), (.ret, ⟨[2], [HB]⟩)] (fun n x => scarfjointref04_Few.l2 k n x.1 x.2.1 x.2.2.1 x.2.2.2.1) (fun x => k) (fun x => by kernel_rfl) (fun n x => by kernel_rfl) (by kernel_rfl)
 have l := lc c l [(14, [(76, .bool)]), (8, [(46, .bool)]), (1, [(18, .bool)])] 0 ⟨[1, 3, 4], [(.boxh (.nm 3) (HN 3)), HI, HI]⟩ [(.exit 0, ⟨[1], [(.boxh (.nm 3) (HN 3))]⟩), (.ret, ⟨[2], [HB]⟩)] (fun n x => scarfjointref04_Few.l0 k n x.1 x.2.1 x.2.2.1) (fun x => k) (fun x => by kernel_rfl) (fun n x => by kernel_rfl) (by kernel_rfl)
 have l := lc c l [(14, [(76, .bool)]), (8, [(46, .bool)]), (1, [(18, .bool)])] 6 ⟨[1, 8], [(.boxh (.nm 3) (HN 3)), HI]⟩ [(.exit 6, ⟨[], []⟩), (.ret, ⟨[2], [HB]⟩)] (fun n x => scarfjointref04_Few.l6 x.1 n x.2.1) (fun x => k) (fun x => by kernel_rfl) (fun n x => by kernel_rfl) (by kernel_rfl)
 exact fo c l [(14, [(76, .bool)]), (8, [(46, .bool)]), (1, [(18, .bool)])] Tryz.func27 (by kernel_rfl) (fun x => by kernel_rfl)
theorem cV.good (k : Nat) : G 80 ⟨[(HN 5)], [HB], fun x => cV x.1⟩ := f0 cn [] [(1, [(2, .bool)])] Tryz.func80 (by kernel_rfl) fun x => by kernel_rfl
theorem bj.good (k : Nat) : G 54 ⟨[(HN 9)], [HB], fun x => bj x.1⟩ := f0 (cf (cV.good k) cn) [] [(1, [(2, .bool)])] Tryz.func54 (by kernel_rfl) fun x => by kernel_rfl
theorem cS.good (k : Nat) : G 55 ⟨[(HN 10), HI], [HB], fun x => cS x.1 x.2.1⟩ := f0 cn [] [] Tryz.func55 (by kernel_rfl) fun x => by kernel_rfl
theorem bR.good (k : Nat) : G 56 ⟨[(HN 11), HI], [HB], fun x => bR x.1 x.2.1⟩ := f0 cn [] [] Tryz.func56 (by kernel_rfl) fun x => by kernel_rfl
theorem scarfjointref22_left.good : ∀ k : Nat, G 81 ⟨[(HN 12), HI], [HI], fun x => scarfjointref22_left k x.1 x.2.1⟩
 | 0 => dK Tryz.func81 (c := ep Tryz.f81) (by kernel_rfl) (by kernel_rfl) fun _ => rfl
 | k + 1 => by
  have h := scarfjointref22_left.good k
  have c := cf (bj.good k) (cf (bR.good k) (cf (h) cn))
  have l := ln c Tryz.f81 [] (by kernel_rfl)
  have l := lc c l [(5, [(26, .bool)]), (2, [(17, .bool)])] 0 ⟨[1, 2, 5], [HI, (.boxh (.nm 12) (HN 12)), HI]⟩ [(.exit 0, ⟨[1], [HI]⟩)] (fun n x => scarfjointref22_left.l0 (scarfjointref22_left k) x.2.1 n x.1 x.2.2.1) (fun x => k) (fun x => by kernel_rfl) (fun n x => by kernel_rfl) (by kernel_rfl)
  exact fo c l [(5, [(26, .bool)]), (2, [(17, .bool)])] Tryz.func81 (by kernel_rfl) (fun x => by kernel_rfl)
theorem cU.good (k : Nat) : G 57 ⟨[(HN 12)], [HB], fun x => cU k x.1⟩ := f0 (cf (scarfjointref22_left.good k) cn) [] [] Tryz.func57 (by kernel_rfl) fun x => by kernel_rfl
theorem cA.good (k : Nat) : G 28 ⟨[(HN 13)], [HB], fun x => cA k x.1⟩ := f0 (cf (bj.good k) (cf (cS.good k) (cf (bR.good k) (cf (cU.good k) cn)))) [] [(1, [(2, .bool)])] Tryz.func28 (by kernel_rfl) fun x => by kernel_rfl
theorem scarfjointref40_Few.good (k : Nat) : G 9 ⟨[(HN 3), (HL (.nm 13))], [HB], fun x => scarfjointref40_Few k x.1 x.2.1⟩ := by
 have c := cf (scarfjointref04_Few.good k) (cf (cA.good k) cn)
 have l := ln c Tryz.f9 [] (by kernel_rfl)
 have l := lc c l [(1, [(13, .bool)])] 0 ⟨[1, 5], [(HL (.nm 13)), HI]⟩ [(.exit 0, ⟨[], []⟩), (.ret, ⟨[4], [HB]⟩)] (fun n x => scarfjointref40_Few.l0 k x.1 n x.2.1) (fun x => k) (fun x => by kernel_rfl) (fun n x => by kernel_rfl) (by kernel_rfl)
 exact fo c l [(1, [(13, .bool)])] Tryz.func9 (by kernel_rfl) (fun x => by kernel_rfl)
theorem ax.good : ∀ k : Nat, G 106 ⟨[(HN 3), HI], [(RN 0)], fun x => ax k x.1 x.2.1⟩
 | 0 => dK Tryz.func106 (c := ep Tryz.f106) (by kernel_rfl) (by kernel_rfl) fun _ => rfl
 | k + 1 => by
  have h := ax.good k
  exact f0 (cf (h) cn) [] [] Tryz.func106 (by kernel_rfl) fun x => by kernel_rfl
theorem ag.good (k : Nat) : G 107 ⟨[HI, HI, HI], [HB], fun x => ag x.1 x.2.1 x.2.2.1⟩ := f0 cn [] [(1, [(6, .bool)])] Tryz.func107 (by kernel_rfl) fun x => by kernel_rfl
theorem cK.good (k : Nat) : G 211 ⟨[(HN 23)], [HS], fun x => cK x.1⟩ := f0 cn [] [] Tryz.func211 (by kernel_rfl) fun x => by kernel_rfl
theorem bx.good (k : Nat) : G 255 ⟨[(.hole (.int .u8))], [HB], fun x => bx x.1⟩ := f0 cn [] [(1, [(2, .bool)])] Tryz.func255 (by kernel_rfl) fun x => by kernel_rfl
theorem aO.good (k : Nat) : G 256 ⟨[(.hole (.int .u8))], [HB], fun x => aO x.1⟩ := f0 cn [] [(1, [(2, .bool)])] Tryz.func256 (by kernel_rfl) fun x => by kernel_rfl
theorem scarfjointref01_run.good (k : Nat) : G 257 ⟨[HS, HI, HB], [HI], fun x => scarfjointref01_run k x.1 x.2.1 x.2.2.1⟩ := by
 have c := cf (bx.good k) (cf (aO.good k) cn)
 have l := ln c Tryz.f257 [] (by kernel_rfl)
 have l := lc c l [(2, [(41, .bool)])] 0 ⟨[0, 1, 2, 7], [HS, HI, HB, HI]⟩ [(.exit 0, ⟨[7], [HI]⟩)] (fun n x => scarfjointref01_run.l0 x.1 x.2.1 x.2.2.1 n x.2.2.2.1) (fun x => k) (fun x => by kernel_rfl) (fun n x => by kernel_rfl) (by kernel_rfl)
 exact fo c l [(2, [(41, .bool)])] Tryz.func257 (by kernel_rfl) (fun x => by kernel_rfl)
theorem scarfjointref01_quoted.good (k : Nat) : G 258 ⟨[HS, HI], [HI], fun x => scarfjointref01_quoted k x.1 x.2.1⟩ := by
 have c := cn
 have l := ln c Tryz.f258 [] (by kernel_rfl)
 have l := lc c l [(7, [(29, .bool)])] 0 ⟨[0, 1, 5], [HS, HI, HI]⟩ [(.exit 0, ⟨[], []⟩), (.ret, ⟨[4], [HI]⟩)] (fun n x => scarfjointref01_quoted.l0 x.1 x.2.1 n x.2.2.1) (fun x => k) (fun x => by kernel_rfl) (fun n x => by kernel_rfl) (by kernel_rfl)
 exact fo c l [(7, [(29, .bool)])] Tryz.func258 (by kernel_rfl) (fun x => by kernel_rfl)
theorem cE.good (k : Nat) : G 259 ⟨[], [(.rowh .str)], fun x => cE⟩ := f0 cn [] [] Tryz.func259 (by kernel_rfl) fun x => by kernel_rfl
theorem scarfjointref01_one.good (k : Nat) : G 212 ⟨[HS, HI], [(HN 23), HI, HI], fun x => scarfjointref01_one k x.1 x.2.1⟩ := by
 have c := cf (bx.good k) (cf (aO.good k) (cf (scarfjointref01_run.good k) (cf (scarfjointref01_quoted.good k) (cf (cE.good k) cn))))
 have l := ln c Tryz.f212 [] (by kernel_rfl)
 have l := lc c l [(21, [(98, .bool)]), (2, [(22, .bool)])] 0 ⟨[0, 1, 4, 12, 13], [HS, HI, (.boxh (.nm 23) (HN 23)), (.rowh .str), HI]⟩ [(.exit 0, ⟨[4], [(.boxh (.nm 23) (HN 23))]⟩), (.ret, ⟨[4, 5, 6], [(.boxh (.nm 23) (HN 23)), HI, HI]⟩)] (fun n x => scarfjointref01_one.l0 x.1 x.2.1 x.2.2.1 x.2.2.2.1 n x.2.2.2.2.1) (fun x => k) (fun x => by kernel_rfl) (fun n x => by kernel_rfl) (by kernel_rfl)
 exact fo c l [(21, [(98, .bool)]), (2, [(22, .bool)])] Tryz.func212 (by kernel_rfl) (fun x => by kernel_rfl)
theorem cD.good (k : Nat) : G 159 ⟨[(HN 23)], [HB], fun x => cD k x.1⟩ := f0 (cf (cK.good k) (cf (scarfjointref01_one.good k) cn)) [] [(5, [(2, .bool)])] Tryz.func159 (by kernel_rfl) fun x => by kernel_rfl
theorem ap.good (k : Nat) : G 123 ⟨[HS], [HB], fun x => ap k x.1⟩ := f0 (cf (cD.good k) cn) [] [] Tryz.func123 (by kernel_rfl) fun x => by kernel_rfl
theorem scarfjointref04_names.good (k : Nat) : G 160 ⟨[(HL .str)], [HI], fun x => scarfjointref04_names k x.1⟩ := by
 have c := cf (ap.good k) cn
 have l := ln c Tryz.f160 [] (by kernel_rfl)
 have l := lc c l [] 2 ⟨[0, 3, 4], [(HL .str), HI, HI]⟩ [(.exit 2, ⟨[0, 3], [(HL .str), HI]⟩), (.ret, ⟨[2], [HI]⟩)] (fun n x => scarfjointref04_names.l2 x.1 x.2.1 n x.2.2.1) (fun x => k) (fun x => by kernel_rfl) (fun n x => by kernel_rfl) (by kernel_rfl)
 have l := lc c l [] 0 ⟨[0, 3], [(HL .str), HI]⟩ [(.exit 0, ⟨[], []⟩), (.ret, ⟨[2], [HI]⟩)] (fun n x => scarfjointref04_names.l0 k n x.1 x.2.1) (fun x => k) (fun x => by kernel_rfl) (fun n x => by kernel_rfl) (by kernel_rfl)
 exact fo c l [] Tryz.func160 (by kernel_rfl) (fun x => by kernel_rfl)
theorem bw.good (k : Nat) : G 124 ⟨[(HN 0)], [HI], fun x => bw k x.1⟩ := f0 (cf (ag.good k) (cf (scarfjointref04_names.good k) cn)) [] [(8, [(37, .bool)]), (2, [(19, .bool)])] Tryz.func124 (by kernel_rfl) fun x => by kernel_rfl
theorem scarfjointref04_node.good (k : Nat) : G 90 ⟨[(HN 3), HI], [HI], fun x => scarfjointref04_node k x.1 x.2.1⟩ := by
 have c := cf (ax.good k) (cf (ag.good k) (cf (ap.good k) (cf (bw.good k) cn)))
 have l := ln c Tryz.f90 [] (by kernel_rfl)
 have l := lc c l [(12, [(51, .bool)])] 0 ⟨[1, 2, 5, 6], [HI, (.boxh (.nm 3) (HN 3)), (.boxh (.nm 1) (HN 1)), HI]⟩ [(.exit 0, ⟨[1, 2, 5], [HI, (.boxh (.nm 3) (HN 3)), (.boxh (.nm 1) (HN 1))]⟩), (.ret, ⟨[4], [HI]⟩)] (fun n x => scarfjointref04_node.l0 x.1 x.2.1 x.2.2.1 n x.2.2.2.1) (fun x => k) (fun x => by kernel_rfl) (fun n x => by kernel_rfl) (by kernel_rfl)
 have l := lc c l [(12, [(51, .bool)])] 4 ⟨[7, 8, 9], [(RN 0), HI, HI]⟩ [(.exit 4, ⟨[7, 8], [(RN 0), HI]⟩), (.ret, ⟨[4], [HI]⟩)] (fun n x => scarfjointref04_node.l4 x.1 x.2.1 n x.2.2.1) (fun x => k) (fun x => by kernel_rfl) (fun n x => by kernel_rfl) (by kernel_rfl)
 have l := lc c l [(12, [(51, .bool)])] 2 ⟨[7, 8], [(RN 0), HI]⟩ [(.exit 2, ⟨[], []⟩), (.ret, ⟨[4], [HI]⟩)] (fun n x => scarfjointref04_node.l2 k n x.1 x.2.1) (fun x => k) (fun x => by kernel_rfl) (fun n x => by kernel_rfl) (by kernel_rfl)
 exact fo c l [(12, [(51, .bool)])] Tryz.func90 (by kernel_rfl) (fun x => by kernel_rfl)
theorem bC.good (k : Nat) : G 125 ⟨[HI, HI], [HB], fun x => bC x.1 x.2.1⟩ := f0 (cf (ag.good k) cn) [] [(1, [(4, .bool)])] Tryz.func125 (by kernel_rfl) fun x => by kernel_rfl
theorem scarfjointref04_edge.good (k : Nat) : G 91 ⟨[(HN 3), HI], [HI], fun x => scarfjointref04_edge k x.1 x.2.1⟩ := by
 have c := cf (ag.good k) (cf (ap.good k) (cf (bC.good k) cn))
 have l := ln c Tryz.f91 [] (by kernel_rfl)
 have l := lc c l [(10, [(62, .bool)])] 0 ⟨[1, 2, 5, 6], [HI, (.boxh (.nm 3) (HN 3)), (.boxh (.nm 2) (HN 2)), HI]⟩ [(.exit 0, ⟨[2, 5], [(.boxh (.nm 3) (HN 3)), (.boxh (.nm 2) (HN 2))]⟩), (.ret, ⟨[4], [HI]⟩)] (fun n x => scarfjointref04_edge.l0 x.1 x.2.1 x.2.2.1 n x.2.2.2.1) (fun x => k) (fun x => by kernel_rfl) (fun n x => by kernel_rfl) (by kernel_rfl)
 exact fo c l [(10, [(62, .bool)])] Tryz.func91 (by kernel_rfl) (fun x => by kernel_rfl)
theorem scarfjointref04_Valid.good (k : Nat) : G 63 ⟨[(HN 3)], [HS, HI], fun x => scarfjointref04_Valid k x.1⟩ := by
 have c := cf (scarfjointref04_node.good k) (cf (scarfjointref04_edge.good k) cn)
 have l := ln c Tryz.f63 [] (by kernel_rfl)
 have l := lc c l [(3, [(21, .bool)])] 0 ⟨[1, 4], [(.boxh (.nm 3) (HN 3)), HI]⟩ [(.exit 0, ⟨[1], [(.boxh (.nm 3) (HN 3))]⟩), (.ret, ⟨[2, 3], [HS, HI]⟩)] (fun n x => scarfjointref04_Valid.l0 k x.1 n x.2.1) (fun x => k) (fun x => by kernel_rfl) (fun n x => by kernel_rfl) (by kernel_rfl)
 have l := lc c l [(3, [(21, .bool)])] 2 ⟨[1, 6], [(.boxh (.nm 3) (HN 3)), HI]⟩ [(.exit 2, ⟨[], []⟩), (.ret, ⟨[2, 3], [HS, HI]⟩)] (fun n x => scarfjointref04_Valid.l2 k x.1 n x.2.1) (fun x => k) (fun x => by kernel_rfl) (fun n x => by kernel_rfl) (by kernel_rfl)
 exact fo c l [(3, [(21, .bool)])] Tryz.func63 (by kernel_rfl) (fun x => by kernel_rfl)
theorem scarfjointref24_has.good (k : Nat) : G 170 ⟨[(HL (.int .i64)), HI], [HB], fun x => scarfjointref24_has k x.1 x.2.1⟩ := by
 have c := cn
 have l := ln c Tryz.f170 [] (by kernel_rfl)
 have l := lc c l [] 0 ⟨[0, 1, 5], [(HL (.int .i64)), HI, HI]⟩ [(.exit 0, ⟨[], []⟩), (.ret, ⟨[4], [HB]⟩)] (fun n x => scarfjointref24_has.l0 x.1 x.2.1 n x.2.2.1) (fun x => k) (fun x => by kernel_rfl) (fun n x => by kernel_rfl) (by kernel_rfl)
 exact fo c l [] Tryz.func170 (by kernel_rfl) (fun x => by kernel_rfl)
theorem scarfjointref24_rest.good (k : Nat) : G 132 ⟨[HI, (HL (.int .i64))], [RI], fun x => scarfjointref24_rest k x.1 x.2.1⟩ := by
 have c := cf (scarfjointref24_has.good k) cn
 have l := ln c Tryz.f132 [] (by kernel_rfl)
 have l := lc c l [] 0 ⟨[0, 1, 5, 6], [HI, (HL (.int .i64)), RI, HI]⟩ [(.exit 0, ⟨[5], [RI]⟩)] (fun n x => scarfjointref24_rest.l0 k x.1 x.2.1 n x.2.2.1 x.2.2.2.1) (fun x => k) (fun x => by kernel_rfl) (fun n x => by kernel_rfl) (by kernel_rfl)
 exact fo c l [] Tryz.func132 (by kernel_rfl) (fun x => by kernel_rfl)
theorem aQ.good (k : Nat) : G 96 ⟨[(HN 13)], [RI, RI], fun x => aQ k x.1⟩ := f0 (cf (scarfjointref24_rest.good k) cn) [] [] Tryz.func96 (by kernel_rfl) fun x => by kernel_rfl
theorem bp.good (k : Nat) : G 175 ⟨[HI], [HB], fun x => bp x.1⟩ := f0 cn [] [(1, [(2, .bool)])] Tryz.func175 (by kernel_rfl) fun x => by kernel_rfl
theorem bX.good (k : Nat) : G 176 ⟨[(HN 4), HI], [HB], fun x => bX x.1 x.2.1⟩ := f0 (cf (bp.good k) cn) [] [(1, [(4, .bool)])] Tryz.func176 (by kernel_rfl) fun x => by kernel_rfl
theorem scarfjointref05_Valid.good (k : Nat) : G 141 ⟨[(HN 5)], [HI], fun x => scarfjointref05_Valid k x.1⟩ := by
 have c := cf (bp.good k) (cf (bX.good k) cn)
 have l := ln c Tryz.f141 [] (by kernel_rfl)
 have l := lc c l [(1, [(14, .bool)])] 0 ⟨[1, 3], [(.boxh (.nm 5) (HN 5)), HI]⟩ [(.exit 0, ⟨[1], [(.boxh (.nm 5) (HN 5))]⟩), (.ret, ⟨[2], [HI]⟩)] (fun n x => scarfjointref05_Valid.l0 x.1 n x.2.1) (fun x => k) (fun x => by kernel_rfl) (fun n x => by kernel_rfl) (by kernel_rfl)
 have l := lc c l [(1, [(14, .bool)])] 2 ⟨[1, 4], [(.boxh (.nm 5) (HN 5)), HI]⟩ [(.exit 2, ⟨[], []⟩), (.ret, ⟨[2], [HI]⟩)] (fun n x => scarfjointref05_Valid.l2 x.1 n x.2.1) (fun x => k) (fun x => by kernel_rfl) (fun n x => by kernel_rfl) (by kernel_rfl)
 exact fo c l [(1, [(14, .bool)])] Tryz.func141 (by kernel_rfl) (fun x => by kernel_rfl)
theorem scarfjointref17_Typed.good (k : Nat) : G 161 ⟨[(HN 3), (HN 5)], [HB], fun x => scarfjointref17_Typed k x.1 x.2.1⟩ := by
 have c := cn
 have l := ln c Tryz.f161 [] (by kernel_rfl)
 have l := lc c l [(9, [(56, .bool)]), (4, [(30, .bool)])] 0 ⟨[2, 3, 5], [(.boxh (.nm 3) (HN 3)), (.boxh (.nm 5) (HN 5)), HI]⟩ [(.exit 0, ⟨[2, 3], [(.boxh (.nm 3) (HN 3)), (.boxh (.nm 5) (HN 5))]⟩), (.ret, ⟨[4], [HB]⟩)] (fun n x => scarfjointref17_Typed.l0 x.1 x.2.1 n x.2.2.1) (fun x => k) (fun x => by kernel_rfl) (fun n x => by kernel_rfl) (by kernel_rfl)
 have l := lc c l [(9, [(56, .bool)]), (4, [(30, .bool)])] 2 ⟨[2, 3, 6], [(.boxh (.nm 3) (HN 3)), (.boxh (.nm 5) (HN 5)), HI]⟩ [(.exit 2, ⟨[], []⟩), (.ret, ⟨[4], [HB]⟩)] (fun n x => scarfjointref17_Typed.l2 x.1 x.2.1 n x.2.2.1) (fun x => k) (fun x => by kernel_rfl) (fun n x => by kernel_rfl) (by kernel_rfl)
 exact fo c l [(9, [(56, .bool)]), (4, [(30, .bool)])] Tryz.func161 (by kernel_rfl) (fun x => by kernel_rfl)
theorem aH.good (k : Nat) : G 94 ⟨[(HN 3), HI, HI], [HI], fun x => aH k x.1 x.2.1 x.2.2.1⟩ := f0 (cf (scarfjointref04_Valid.good k) (cf (ag.good k) cn)) [] [(4, [(32, .bool)])] Tryz.func94 (by kernel_rfl) fun x => by kernel_rfl
theorem scarfjointref04_Attrs.good (k : Nat) : G 78 ⟨[(HN 3), HI], [(RN 0), HI], fun x => scarfjointref04_Attrs k x.1 x.2.1⟩ := by
 have c := cf (aH.good k) (cf (ax.good k) cn)
 have l := ln c Tryz.f78 [] (by kernel_rfl)
 have l := lc c l [] 0 ⟨[7, 8, 9], [(RN 0), (RN 0), HI]⟩ [(.exit 0, ⟨[7], [(RN 0)]⟩)] (fun n x => scarfjointref04_Attrs.l0 x.2.1 n x.1 x.2.2.1) (fun x => k) (fun x => by kernel_rfl) (fun n x => by kernel_rfl) (by kernel_rfl)
 exact fo c l [] Tryz.func78 (by kernel_rfl) (fun x => by kernel_rfl)
theorem cb.good (k : Nat) : G 162 ⟨[(HN 3), (HN 9), HI, HI], [(HN 0), HB], fun x => cb k x.1 x.2.1 x.2.2.1 x.2.2.2.1⟩ := f0 (cf (scarfjointref04_Attrs.good k) cn) [] [(4, [(45, .bool)]), (1, [(21, .bool)])] Tryz.func162 (by kernel_rfl) fun x => by kernel_rfl
theorem ck.good (k : Nat) : G 163 ⟨[HI], [HB], fun x => ck x.1⟩ := f0 cn [] [(1, [(2, .bool)])] Tryz.func163 (by kernel_rfl) fun x => by kernel_rfl
theorem bN.good (k : Nat) : G 260 ⟨[HI, (HN 6)], [HI], fun x => bN x.1 x.2.1⟩ := f0 cn [] [(1, [(23, .bool)])] Tryz.func260 (by kernel_rfl) fun x => by kernel_rfl
theorem cz.good (k : Nat) : G 213 ⟨[HI, (HN 8)], [HI], fun x => cz x.1 x.2.1⟩ := f0 (cf (bN.good k) cn) [] [(1, [(13, .bool)])] Tryz.func213 (by kernel_rfl) fun x => by kernel_rfl
theorem scarfjointref03_Valid.good (k : Nat) : G 164 ⟨[HI, (HL (.nm 8))], [HI], fun x => scarfjointref03_Valid k x.1 x.2.1⟩ := by
 have c := cf (cz.good k) cn
 have l := ln c Tryz.f164 [] (by kernel_rfl)
 have l := lc c l [(1, [(12, .bool)])] 0 ⟨[0, 1, 5], [HI, (HL (.nm 8)), HI]⟩ [(.exit 0, ⟨[], []⟩), (.ret, ⟨[4], [HI]⟩)] (fun n x => scarfjointref03_Valid.l0 x.1 x.2.1 n x.2.2.1) (fun x => k) (fun x => by kernel_rfl) (fun n x => by kernel_rfl) (by kernel_rfl)
 exact fo c l [(1, [(12, .bool)])] Tryz.func164 (by kernel_rfl) (fun x => by kernel_rfl)
end Go.Ev
end
section
open Go.Proofs
namespace Go.Ev
theorem scarfjointref21_occurs.good (k : Nat) : G 165 ⟨[(HN 9), HI], [HB], fun x => scarfjointref21_occurs k x.1 x.2.1⟩ := by
 have c := cn
 have l := ln c Tryz.f165 [] (by kernel_rfl)
 have l := lc c l [] 0 ⟨[1, 2, 5], [HI, (.boxh (.nm 9) (HN 9)), HI]⟩ [(.exit 0, ⟨[], []⟩), (.ret, ⟨[4], [HB]⟩)] (fun n x => scarfjointref21_occurs.l0 x.1 x.2.1 n x.2.2.1) (fun x => k) (fun x => by kernel_rfl) (fun n x => by kernel_rfl) (by kernel_rfl)
 exact fo c l [] Tryz.func165 (by kernel_rfl) (fun x => by kernel_rfl)
theorem scarfjointref21_Valid.good (k : Nat) : G 126 ⟨[(HN 3), (HN 9)], [HI], fun x => scarfjointref21_Valid k x.1 x.2.1⟩ := by
 have c := cf (scarfjointref04_Valid.good k) (cf (scarfjointref05_Valid.good k) (cf (scarfjointref17_Typed.good k) (cf (cb.good k) (cf (ck.good k) (cf (scarfjointref03_Valid.good k) (cf (scarfjointref21_occurs.good k) cn))))))
 have l := ln c Tryz.f126 [] (by kernel_rfl)
 have l := lc c l [(18, [(95, .bool)]), (11, [(50, .bool)]), (9, [(40, .bool)])] 0 ⟨[2, 3, 8], [(.boxh (.nm 3) (HN 3)), (.boxh (.nm 9) (HN 9)), HI]⟩ [(.exit 0, ⟨[3], [(.boxh (.nm 9) (HN 9))]⟩), (.ret, ⟨[4], [HI]⟩)] (fun n x => scarfjointref21_Valid.l0 k x.1 x.2.1 n x.2.2.1) (fun x => k) (fun x => by kernel_rfl) (fun n x => by kernel_rfl) (by kernel_rfl)
 have l := lc c l [(18, [(95, .bool)]), (11, [(50, .bool)]), (9, [(40, .bool)])] 2 ⟨[3, 13], [(.boxh (.nm 9) (HN 9)), HI]⟩ [(.exit 2, ⟨[], []⟩), (.ret, ⟨[4], [HI]⟩)] (fun n x => scarfjointref21_Valid.l2 k x.1 n x.2.1) (fun x => k) (fun x => by kernel_rfl) (fun n x => by kernel_rfl) (by kernel_rfl)
 exact fo c l [(18, [(95, .bool)]), (11, [(50, .bool)]), (9, [(40, .bool)])] Tryz.func126 (by kernel_rfl) (fun x => by kernel_rfl)
theorem scarfjointref24_slot.good (k : Nat) : G 166 ⟨[(HN 3), (HN 9), HI], [HI], fun x => scarfjointref24_slot k x.1 x.2.1 x.2.2.1⟩ := by
 have c := cf (scarfjointref04_Attrs.good k) cn
 have l := ln c Tryz.f166 [] (by kernel_rfl)
 have l := lc c l [(10, [(100, .bool)]), (5, [(75, .bool)]), (2, [(27, .bool)])] 0 ⟨[2, 4, 7, 10], [HI, (.boxh (.nm 9) (HN 9)), (.boxh (.nm 7) (HN 7)), HI]⟩ [(.exit 0, ⟨[], []⟩), (.ret, ⟨[6], [HI]⟩)] (fun n x => scarfjointref24_slot.l0 x.1 x.2.1 x.2.2.1 n x.2.2.2.1) (fun x => k) (fun x => by kernel_rfl) (fun n x => by kernel_rfl) (by kernel_rfl)
 exact fo c l [(10, [(100, .bool)]), (5, [(75, .bool)]), (2, [(27, .bool)])] Tryz.func166 (by kernel_rfl) (fun x => by kernel_rfl)
theorem scarfjointref24_right.good (k : Nat) : G 127 ⟨[(HN 3), (HN 13)], [HI], fun x => scarfjointref24_right k x.1 x.2.1⟩ := by
 have c := cf (scarfjointref05_Valid.good k) (cf (scarfjointref17_Typed.good k) (cf (scarfjointref24_slot.good k) cn))
 have l := ln c Tryz.f127 [] (by kernel_rfl)
 have l := lc c l [(6, [(34, .bool)])] 0 ⟨[2, 3, 6], [(.boxh (.nm 3) (HN 3)), (.boxh (.nm 13) (HN 13)), HI]⟩ [(.exit 0, ⟨[], []⟩), (.ret, ⟨[4], [HI]⟩)] (fun n x => scarfjointref24_right.l0 k x.1 x.2.1 n x.2.2.1) (fun x => k) (fun x => by kernel_rfl) (fun n x => by kernel_rfl) (by kernel_rfl)
 exact fo c l [(6, [(34, .bool)])] Tryz.func127 (by kernel_rfl) (fun x => by kernel_rfl)
theorem scarfjointref07_ascending.good (k : Nat) : G 218 ⟨[(HL (.int .i64)), HI], [HI], fun x => scarfjointref07_ascending k x.1 x.2.1⟩ := by
 have c := cn
 have l := ln c Tryz.f218 [] (by kernel_rfl)
 have l := lc c l [(6, [(38, .bool)]), (4, [(24, .bool)])] 0 ⟨[0, 1, 5], [(HL (.int .i64)), HI, HI]⟩ [(.exit 0, ⟨[], []⟩), (.ret, ⟨[4], [HI]⟩)] (fun n x => scarfjointref07_ascending.l0 x.1 x.2.1 n x.2.2.1) (fun x => k) (fun x => by kernel_rfl) (fun n x => by kernel_rfl) (by kernel_rfl)
 exact fo c l [(6, [(38, .bool)]), (4, [(24, .bool)])] Tryz.func218 (by kernel_rfl) (fun x => by kernel_rfl)
theorem scarfjointref07_has.good (k : Nat) : G 219 ⟨[(HL (.int .i64)), HI], [HB], fun x => scarfjointref07_has k x.1 x.2.1⟩ := by
 have c := cn
 have l := ln c Tryz.f219 [] (by kernel_rfl)
 have l := lc c l [] 0 ⟨[0, 1, 5], [(HL (.int .i64)), HI, HI]⟩ [(.exit 0, ⟨[], []⟩), (.ret, ⟨[4], [HB]⟩)] (fun n x => scarfjointref07_has.l0 x.1 x.2.1 n x.2.2.1) (fun x => k) (fun x => by kernel_rfl) (fun n x => by kernel_rfl) (by kernel_rfl)
 exact fo c l [] Tryz.func219 (by kernel_rfl) (fun x => by kernel_rfl)
theorem scarfjointref07_Right.good (k : Nat) : G 174 ⟨[(HN 5), (HN 10)], [HI], fun x => scarfjointref07_Right k x.1 x.2.1⟩ := by
 have c := cf (scarfjointref07_ascending.good k) (cf (scarfjointref07_has.good k) cn)
 have l := ln c Tryz.f174 [] (by kernel_rfl)
 have l := lc c l [(11, [(56, .bool)])] 0 ⟨[2, 3, 7], [(.boxh (.nm 5) (HN 5)), (.boxh (.nm 10) (HN 10)), HI]⟩ [(.exit 0, ⟨[], []⟩), (.ret, ⟨[4], [HI]⟩)] (fun n x => scarfjointref07_Right.l0 k x.1 x.2.1 n x.2.2.1) (fun x => k) (fun x => by kernel_rfl) (fun n x => by kernel_rfl) (by kernel_rfl)
 exact fo c l [(11, [(56, .bool)])] Tryz.func174 (by kernel_rfl) (fun x => by kernel_rfl)
theorem bh.good (k : Nat) : G 136 ⟨[(HN 5), (HN 10)], [HI], fun x => bh k x.1 x.2.1⟩ := f0 (cf (scarfjointref05_Valid.good k) (cf (scarfjointref07_Right.good k) cn)) [] [] Tryz.func136 (by kernel_rfl) fun x => by kernel_rfl
theorem scarfjointref07_index.good (k : Nat) : G 137 ⟨[(HL (.int .i64)), HI], [HI], fun x => scarfjointref07_index k x.1 x.2.1⟩ := by
 have c := cn
 have l := ln c Tryz.f137 [] (by kernel_rfl)
 have l := lc c l [] 0 ⟨[0, 1, 5], [(HL (.int .i64)), HI, HI]⟩ [(.exit 0, ⟨[], []⟩), (.ret, ⟨[4], [HI]⟩)] (fun n x => scarfjointref07_index.l0 x.1 x.2.1 n x.2.2.1) (fun x => k) (fun x => by kernel_rfl) (fun n x => by kernel_rfl) (by kernel_rfl)
 exact fo c l [] Tryz.func137 (by kernel_rfl) (fun x => by kernel_rfl)
theorem scarfjointref07_Extract.good (k : Nat) : G 99 ⟨[(HN 5), (HN 10)], [(.aggh 5 [RI, (RN 4)]), (.aggh 11 [RI, RI]), HI], fun x => scarfjointref07_Extract k x.1 x.2.1⟩ := by
 have c := cf (bh.good k) (cf (scarfjointref07_index.good k) cn)
 have l := ln c Tryz.f99 [] (by kernel_rfl)
 have l := lc c l [] 0 ⟨[2, 3, 4, 5, 8, 9], [(.boxh (.nm 5) (HN 5)), (.boxh (.nm 10) (HN 10)), (.boxh (.nm 5) (.aggh 5 [RI, (RN 4)])), (.boxh (.nm 11) (.aggh 11 [RI, RI])), (.boxh (.nm 5) (.aggh 5 [RI, (RN 4)])), HI]⟩ [(.exit 0, ⟨[2, 3, 4, 5, 8], [(.boxh (.nm 5) (HN 5)), (.boxh (.nm 10) (HN 10)), (.boxh (.nm 5) (.aggh 5 [RI, (RN 4)])), (.boxh (.nm 11) (.aggh 11 [RI, RI])), (.boxh (.nm 5) (.aggh 5 [RI, (RN 4)]))]⟩)] (fun n x => scarfjointref07_Extract.l0 x.1 x.2.1 x.2.2.1.1 x.2.2.1.2.1 x.2.2.2.1.1 x.2.2.2.1.2.1 x.2.2.2.2.1.2.1 n x.2.2.2.2.1.1 x.2.2.2.2.2.1) (fun x => k) (fun x => by kernel_rfl) (fun n x => by kernel_rfl) (by kernel_rfl)
 have l := lc c l [] 2 ⟨[2, 3, 4, 5, 8, 10], [(.boxh (.nm 5) (HN 5)), (.boxh (.nm 10) (HN 10)), (.boxh (.nm 5) (.aggh 5 [RI, (RN 4)])), (.boxh (.nm 11) (.aggh 11 [RI, RI])), (.boxh (.nm 5) (.aggh 5 [RI, (RN 4)])), HI]⟩ [(.exit 2, ⟨[3, 4, 5, 8], [(.boxh (.nm 10) (HN 10)), (.boxh (.nm 5) (.aggh 5 [RI, (RN 4)])), (.boxh (.nm 11) (.aggh 11 [RI, RI])), (.boxh (.nm 5) (.aggh 5 [RI, (RN 4)]))]⟩)] (fun n x => scarfjointref07_Extract.l2 k x.1 x.2.1 x.2.2.1.1 x.2.2.1.2.1 x.2.2.2.1.1 x.2.2.2.1.2.1 x.2.2.2.2.1.1 n x.2.2.2.2.1.2.1 x.2.2.2.2.2.1) (fun x => k) (fun x => by kernel_rfl) (fun n x => by kernel_rfl) (by kernel_rfl)
 exact fo c l [] Tryz.func99 (by kernel_rfl) (fun x => by kernel_rfl)
theorem scarfjointref06_Valid.good (k : Nat) : G 167 ⟨[(HN 5), (HN 5), (HN 11)], [HI], fun x => scarfjointref06_Valid k x.1 x.2.1 x.2.2.1⟩ := by
 have c := cf (scarfjointref05_Valid.good k) cn
 have l := ln c Tryz.f167 [] (by kernel_rfl)
 have l := lc c l [(24, [(140, .bool)]), (19, [(101, .bool)]), (12, [(62, .bool)]), (7, [(38, .bool)])] 0 ⟨[3, 4, 5, 9], [(.boxh (.nm 5) (HN 5)), (.boxh (.nm 5) (HN 5)), (.boxh (.nm 11) (HN 11)), HI]⟩ [(.exit 0, ⟨[3, 4, 5], [(.boxh (.nm 5) (HN 5)), (.boxh (.nm 5) (HN 5)), (.boxh (.nm 11) (HN 11))]⟩), (.ret, ⟨[6], [HI]⟩)] (fun n x => scarfjointref06_Valid.l0 x.1 x.2.1 x.2.2.1 n x.2.2.2.1) (fun x => k) (fun x => by kernel_rfl) (fun n x => by kernel_rfl) (by kernel_rfl)
 have l := lc c l [(24, [(140, .bool)]), (19, [(101, .bool)]), (12, [(62, .bool)]), (7, [(38, .bool)])] 2 ⟨[3, 4, 5, 10], [(.boxh (.nm 5) (HN 5)), (.boxh (.nm 5) (HN 5)), (.boxh (.nm 11) (HN 11)), HI]⟩ [(.exit 2, ⟨[], []⟩), (.ret, ⟨[6], [HI]⟩)] (fun n x => scarfjointref06_Valid.l2 x.1 x.2.1 x.2.2.1 n x.2.2.2.1) (fun x => k) (fun x => by kernel_rfl) (fun n x => by kernel_rfl) (by kernel_rfl)
 exact fo c l [(24, [(140, .bool)]), (19, [(101, .bool)]), (12, [(62, .bool)]), (7, [(38, .bool)])] Tryz.func167 (by kernel_rfl) (fun x => by kernel_rfl)
theorem ce.good (k : Nat) : G 128 ⟨[(HN 13)], [HI], fun x => ce k x.1⟩ := f0 (cf (scarfjointref07_Extract.good k) (cf (bh.good k) (cf (scarfjointref06_Valid.good k) cn))) [] [] Tryz.func128 (by kernel_rfl) fun x => by kernel_rfl
theorem scarfjointref06_Distinct.good (k : Nat) : G 129 ⟨[(HL (.int .i64))], [HB], fun x => scarfjointref06_Distinct k x.1⟩ := by
 have c := cn
 have l := ln c Tryz.f129 [] (by kernel_rfl)
 have l := lc c l [] 2 ⟨[0, 3, 4], [(HL (.int .i64)), HI, HI]⟩ [(.exit 2, ⟨[0, 3], [(HL (.int .i64)), HI]⟩), (.ret, ⟨[2], [HB]⟩)] (fun n x => scarfjointref06_Distinct.l2 x.1 x.2.1 n x.2.2.1) (fun x => k) (fun x => by kernel_rfl) (fun n x => by kernel_rfl) (by kernel_rfl)
 have l := lc c l [] 0 ⟨[0, 3], [(HL (.int .i64)), HI]⟩ [(.exit 0, ⟨[], []⟩), (.ret, ⟨[2], [HB]⟩)] (fun n x => scarfjointref06_Distinct.l0 k n x.1 x.2.1) (fun x => k) (fun x => by kernel_rfl) (fun n x => by kernel_rfl) (by kernel_rfl)
 exact fo c l [] Tryz.func129 (by kernel_rfl) (fun x => by kernel_rfl)
theorem aq.good : ∀ k : Nat, G 95 ⟨[(HN 3), HI, HI], [HB], fun x => aq k x.1 x.2.1 x.2.2.1⟩
 | 0 => dK Tryz.func95 (c := ep Tryz.f95) (by kernel_rfl) (by kernel_rfl) fun _ => rfl
 | k + 1 => by
  have h := aq.good k
  exact f0 (cf (h) cn) [] [(1, [(6, .bool)])] Tryz.func95 (by kernel_rfl) fun x => by kernel_rfl
theorem cg.good (k : Nat) : G 79 ⟨[(HN 3), HI, HI, HI], [HB], fun x => cg k x.1 x.2.1 x.2.2.1 x.2.2.2.1⟩ := f0 (cf (aH.good k) (cf (aq.good k) (cf (ag.good k) cn))) [] [(3, [(8, .bool)]), (1, [(22, .bool)])] Tryz.func79 (by kernel_rfl) fun x => by kernel_rfl
theorem scarfjointref24_proper.good (k : Nat) : G 130 ⟨[(HN 3), (HN 5), (HL (.int .i64)), (HL (.int .i64))], [HB], fun x => scarfjointref24_proper k x.1 x.2.1 x.2.2.1 x.2.2.2.1⟩ := by
 have c := cf (cg.good k) cn
 have l := ln c Tryz.f130 [] (by kernel_rfl)
 have l := lc c l [] 0 ⟨[2, 3, 4, 5, 9], [(HL (.int .i64)), (HL (.int .i64)), (.boxh (.nm 3) (HN 3)), (.boxh (.nm 5) (HN 5)), HI]⟩ [(.exit 0, ⟨[3, 4, 5], [(HL (.int .i64)), (.boxh (.nm 3) (HN 3)), (.boxh (.nm 5) (HN 5))]⟩), (.ret, ⟨[8], [HB]⟩)] (fun n x => scarfjointref24_proper.l0 x.1 x.2.1 x.2.2.1 x.2.2.2.1 n x.2.2.2.2.1) (fun x => k) (fun x => by kernel_rfl) (fun n x => by kernel_rfl) (by kernel_rfl)
 have l := lc c l [] 2 ⟨[3, 4, 5, 10], [(HL (.int .i64)), (.boxh (.nm 3) (HN 3)), (.boxh (.nm 5) (HN 5)), HI]⟩ [(.exit 2, ⟨[], []⟩), (.ret, ⟨[8], [HB]⟩)] (fun n x => scarfjointref24_proper.l2 k x.1 x.2.1 x.2.2.1 n x.2.2.2.1) (fun x => k) (fun x => by kernel_rfl) (fun n x => by kernel_rfl) (by kernel_rfl)
 exact fo c l [] Tryz.func130 (by kernel_rfl) (fun x => by kernel_rfl)
theorem aI.good (k : Nat) : G 277 ⟨[(HN 12)], [HB], fun x => aI x.1⟩ := f0 cn [] [(2, [(2, .bool)])] Tryz.func277 (by kernel_rfl) fun x => by kernel_rfl
theorem bY.good (k : Nat) : G 261 ⟨[(HN 12)], [HB], fun x => bY x.1⟩ := f0 (cf (aI.good k) cn) [] [(3, [(2, .bool)]), (5, [(2, .bool)]), (8, [(2, .bool)])] Tryz.func261 (by kernel_rfl) fun x => by kernel_rfl
theorem scarfjointref22_allRight.good : ∀ k : Nat, G 214 ⟨[(HN 12)], [HB], fun x => scarfjointref22_allRight k x.1⟩
 | 0 => dK Tryz.func214 (c := ep Tryz.f214) (by kernel_rfl) (by kernel_rfl) fun _ => rfl
 | k + 1 => by
  have h := scarfjointref22_allRight.good k
  have c := cf (h) (cf (bY.good k) cn)
  have l := ln c Tryz.f214 [] (by kernel_rfl)
  have l := lc c l [] 0 ⟨[1, 3], [(.boxh (.nm 12) (HN 12)), HI]⟩ [(.exit 0, ⟨[], []⟩), (.ret, ⟨[2], [HB]⟩)] (fun n x => scarfjointref22_allRight.l0 (scarfjointref22_allRight k) x.1 n x.2.1) (fun x => k) (fun x => by kernel_rfl) (fun n x => by kernel_rfl) (by kernel_rfl)
  exact fo c l [] Tryz.func214 (by kernel_rfl) (fun x => by kernel_rfl)
theorem scarfjointref22_Measure.good : ∀ k : Nat, G 215 ⟨[(HN 12)], [HI, HI], fun x => scarfjointref22_Measure k x.1⟩
 | 0 => dK Tryz.func215 (c := ep Tryz.f215) (by kernel_rfl) (by kernel_rfl) fun _ => rfl
 | k + 1 => by
  have h := scarfjointref22_Measure.good k
  have c := cf (h) cn
  have l := ln c Tryz.f215 [] (by kernel_rfl)
  have l := lc c l [] 0 ⟨[1, 4, 5, 6], [(.boxh (.nm 12) (HN 12)), HI, HI, HI]⟩ [(.exit 0, ⟨[1, 4, 5], [(.boxh (.nm 12) (HN 12)), HI, HI]⟩)] (fun n x => scarfjointref22_Measure.l0 (scarfjointref22_Measure k) x.1 n x.2.1 x.2.2.1 x.2.2.2.1) (fun x => k) (fun x => by kernel_rfl) (fun n x => by kernel_rfl) (by kernel_rfl)
  exact fo c l [] Tryz.func215 (by kernel_rfl) (fun x => by kernel_rfl)
theorem bU.good (k : Nat) : G 168 ⟨[(HN 12)], [HI], fun x => bU k x.1⟩ := f0 (cf (scarfjointref22_allRight.good k) (cf (scarfjointref22_Measure.good k) cn)) [] [(4, [(18, .bool)])] Tryz.func168 (by kernel_rfl) fun x => by kernel_rfl
theorem scarfjointref22_occurs.good (k : Nat) : G 262 ⟨[(HN 9), HI], [HB], fun x => scarfjointref22_occurs k x.1 x.2.1⟩ := by
 have c := cn
 have l := ln c Tryz.f262 [] (by kernel_rfl)
 have l := lc c l [] 0 ⟨[1, 2, 5], [HI, (.boxh (.nm 9) (HN 9)), HI]⟩ [(.exit 0, ⟨[], []⟩), (.ret, ⟨[4], [HB]⟩)] (fun n x => scarfjointref22_occurs.l0 x.1 x.2.1 n x.2.2.1) (fun x => k) (fun x => by kernel_rfl) (fun n x => by kernel_rfl) (by kernel_rfl)
 exact fo c l [] Tryz.func262 (by kernel_rfl) (fun x => by kernel_rfl)
theorem scarfjointref22_inner.good (k : Nat) : G 216 ⟨[(HN 3), HI, (HN 9)], [HI], fun x => scarfjointref22_inner k x.1 x.2.1 x.2.2.1⟩ := by
 have c := cf (scarfjointref21_Valid.good k) (cf (scarfjointref22_occurs.good k) cn)
 have l := ln c Tryz.f216 [] (by kernel_rfl)
 have l := lc c l [] 0 ⟨[5, 7, 8], [(.boxh (.nm 9) (HN 9)), HI, HI]⟩ [(.exit 0, ⟨[], []⟩), (.ret, ⟨[6], [HI]⟩)] (fun n x => scarfjointref22_inner.l0 k x.1 x.2.1 n x.2.2.1) (fun x => k) (fun x => by kernel_rfl) (fun n x => by kernel_rfl) (by kernel_rfl)
 exact fo c l [] Tryz.func216 (by kernel_rfl) (fun x => by kernel_rfl)
theorem bQ.good (k : Nat) : G 217 ⟨[(HN 5), (HN 5), (HN 11)], [HB], fun x => bQ k x.1 x.2.1 x.2.2.1⟩ := f0 (cf (scarfjointref06_Distinct.good k) (cf (scarfjointref06_Valid.good k) cn)) [] [(1, [(6, .bool)])] Tryz.func217 (by kernel_rfl) fun x => by kernel_rfl
theorem scarfjointref22_over.good : ∀ k : Nat, G 169 ⟨[(HN 3), (HN 9), (HN 12)], [HI], fun x => scarfjointref22_over k x.1 x.2.1 x.2.2.1⟩
 | 0 => dK Tryz.func169 (c := ep Tryz.f169) (by kernel_rfl) (by kernel_rfl) fun _ => rfl
 | k + 1 => by
  have h := scarfjointref22_over.good k
  have c := cf (scarfjointref06_Valid.good k) (cf (h) (cf (scarfjointref22_inner.good k) (cf (bQ.good k) cn)))
  have l := ln c Tryz.f169 [] (by kernel_rfl)
  have l := lc c l [] 0 ⟨[3, 5, 7, 10], [(.boxh (.nm 3) (HN 3)), (.boxh (.nm 12) (HN 12)), (.boxh (.nm 9) (HN 9)), HI]⟩ [(.exit 0, ⟨[], []⟩), (.ret, ⟨[6], [HI]⟩)] (fun n x => scarfjointref22_over.l0 (scarfjointref22_over k) x.1 x.2.1 x.2.2.1 n x.2.2.2.1) (fun x => k) (fun x => by kernel_rfl) (fun n x => by kernel_rfl) (by kernel_rfl)
  exact fo c l [] Tryz.func169 (by kernel_rfl) (fun x => by kernel_rfl)
theorem bV.good (k : Nat) : G 131 ⟨[(HN 3), (HN 9), (HN 12)], [HI], fun x => bV k x.1 x.2.1 x.2.2.1⟩ := f0 (cf (scarfjointref21_Valid.good k) (cf (bU.good k) (cf (scarfjointref22_over.good k) cn))) [] [] Tryz.func131 (by kernel_rfl) fun x => by kernel_rfl
theorem bi.good (k : Nat) : G 92 ⟨[(HN 3), (HN 13)], [HI], fun x => bi k x.1 x.2.1⟩ := f0 (cf (scarfjointref04_Valid.good k) (cf (aQ.good k) (cf (ap.good k) (cf (scarfjointref21_Valid.good k) (cf (scarfjointref24_right.good k) (cf (ce.good k) (cf (scarfjointref06_Distinct.good k) (cf (scarfjointref24_proper.good k) (cf (bV.good k) cn))))))))) [] [(15, [(53, .bool)])] Tryz.func92 (by kernel_rfl) fun x => by kernel_rfl
theorem bK.good (k : Nat) : G 93 ⟨[(HN 13)], [RI, RI], fun x => bK k x.1⟩ := f0 (cf (scarfjointref24_rest.good k) cn) [] [] Tryz.func93 (by kernel_rfl) fun x => by kernel_rfl
theorem aS.good (k : Nat) : G 64 ⟨[(HN 3), (HN 13)], [RI, RI, HI], fun x => aS k x.1 x.2.1⟩ := f0 (cf (bi.good k) (cf (bK.good k) cn)) [] [] Tryz.func64 (by kernel_rfl) fun x => by kernel_rfl
theorem scarfjointref04_Below.good (k : Nat) : G 65 ⟨[(HN 3), HI], [RI, HI], fun x => scarfjointref04_Below k x.1 x.2.1⟩ := by
 have c := cf (aH.good k) (cf (aq.good k) cn)
 have l := ln c Tryz.f65 [] (by kernel_rfl)
 have l := lc c l [] 0 ⟨[1, 2, 7, 8], [HI, (.boxh (.nm 3) (HN 3)), RI, HI]⟩ [(.exit 0, ⟨[7], [RI]⟩)] (fun n x => scarfjointref04_Below.l0 k x.1 x.2.1 n x.2.2.1 x.2.2.2.1) (fun x => k) (fun x => by kernel_rfl) (fun n x => by kernel_rfl) (by kernel_rfl)
 exact fo c l [] Tryz.func65 (by kernel_rfl) (fun x => by kernel_rfl)
theorem scarfjointref40_Given.good (k : Nat) : G 34 ⟨[(HN 3), (HL (.nm 13))], [HI], fun x => scarfjointref40_Given k x.1 x.2.1⟩ := by
 have c := cf (scarfjointref04_Valid.good k) (cf (aS.good k) (cf (scarfjointref04_Below.good k) cn))
 have l := ln c Tryz.f34 [] (by kernel_rfl)
 have l := lc c l [] 2 ⟨[1, 2, 7, 8, 11], [(HL (.nm 13)), (.boxh (.nm 3) (HN 3)), HI, RI, HI]⟩ [(.exit 2, ⟨[1, 2, 7], [(HL (.nm 13)), (.boxh (.nm 3) (HN 3)), HI]⟩), (.ret, ⟨[4], [HI]⟩)] (fun n x => scarfjointref40_Given.l2 k x.1 x.2.1 x.2.2.1 x.2.2.2.1 n x.2.2.2.2.1) (fun x => k) (fun x => by kernel_rfl) (fun n x => by kernel_rfl) (by kernel_rfl)
 have l := lc c l [] 0 ⟨[1, 2, 7], [(HL (.nm 13)), (.boxh (.nm 3) (HN 3)), HI]⟩ [(.exit 0, ⟨[], []⟩), (.ret, ⟨[4], [HI]⟩)] (fun n x => scarfjointref40_Given.l0 k n x.1 x.2.1 x.2.2.1) (fun x => k) (fun x => by kernel_rfl) (fun n x => by kernel_rfl) (by kernel_rfl)
 exact fo c l [] Tryz.func34 (by kernel_rfl) (fun x => by kernel_rfl)
theorem scarfjointref40_places.good (k : Nat) : G 66 ⟨[(HN 3), (HN 5), (HL (.int .i64)), (HL (.int .i64))], [RI], fun x => scarfjointref40_places k x.1 x.2.1 x.2.2.1 x.2.2.2.1⟩ := by
 have c := cn
 have l := ln c Tryz.f66 [] (by kernel_rfl)
 have l := lc c l [(13, [(11, .bool)]), (9, [(11, .bool)])] 2 ⟨[2, 3, 4, 5, 9, 10, 11, 12], [(HL (.int .i64)), (HL (.int .i64)), (.boxh (.nm 3) (HN 3)), (.boxh (.nm 5) (HN 5)), RI, HI, HB, HI]⟩ [(.exit 2, ⟨[2, 3, 4, 5, 9, 10, 11], [(HL (.int .i64)), (HL (.int .i64)), (.boxh (.nm 3) (HN 3)), (.boxh (.nm 5) (HN 5)), RI, HI, HB]⟩)] (fun n x => scarfjointref40_places.l2 x.1 x.2.1 x.2.2.1 x.2.2.2.1 x.2.2.2.2.1 x.2.2.2.2.2.1 n x.2.2.2.2.2.2.1 x.2.2.2.2.2.2.2.1) (fun x => k) (fun x => by kernel_rfl) (fun n x => by kernel_rfl) (by kernel_rfl)
 have l := lc c l [(13, [(11, .bool)]), (9, [(11, .bool)])] 4 ⟨[2, 3, 4, 5, 9, 10, 11, 13], [(HL (.int .i64)), (HL (.int .i64)), (.boxh (.nm 3) (HN 3)), (.boxh (.nm 5) (HN 5)), RI, HI, HB, HI]⟩ [(.exit 4, ⟨[2, 3, 4, 5, 9, 10, 11], [(HL (.int .i64)), (HL (.int .i64)), (.boxh (.nm 3) (HN 3)), (.boxh (.nm 5) (HN 5)), RI, HI, HB]⟩)] (fun n x => scarfjointref40_places.l4 x.1 x.2.1 x.2.2.1 x.2.2.2.1 x.2.2.2.2.1 x.2.2.2.2.2.1 n x.2.2.2.2.2.2.1 x.2.2.2.2.2.2.2.1) (fun x => k) (fun x => by kernel_rfl) (fun n x => by kernel_rfl) (by kernel_rfl)
 have l := lc c l [(13, [(11, .bool)]), (9, [(11, .bool)])] 0 ⟨[2, 3, 4, 5, 9, 10], [(HL (.int .i64)), (HL (.int .i64)), (.boxh (.nm 3) (HN 3)), (.boxh (.nm 5) (HN 5)), RI, HI]⟩ [(.exit 0, ⟨[9], [RI]⟩)] (fun n x => scarfjointref40_places.l0 k n x.1 x.2.1 x.2.2.1 x.2.2.2.1 x.2.2.2.2.1 x.2.2.2.2.2.1) (fun x => k) (fun x => by kernel_rfl) (fun n x => by kernel_rfl) (by kernel_rfl)
 exact fo c l [(13, [(11, .bool)]), (9, [(11, .bool)])] Tryz.func66 (by kernel_rfl) (fun x => by kernel_rfl)
theorem bG.good (k : Nat) : G 35 ⟨[(HN 3), (HN 13)], [RI], fun x => bG k x.1 x.2.1⟩ := f0 (cf (aS.good k) (cf (scarfjointref40_places.good k) cn)) [] [] Tryz.func35 (by kernel_rfl) fun x => by kernel_rfl
theorem bI.good (k : Nat) : G 75 ⟨[(HN 3), (HN 13)], [RI, RI, HI], fun x => bI k x.1 x.2.1⟩ := f0 (cf (bi.good k) (cf (aQ.good k) cn)) [] [] Tryz.func75 (by kernel_rfl) fun x => by kernel_rfl
theorem bJ.good (k : Nat) : G 49 ⟨[(HN 3), (HN 13)], [RI], fun x => bJ k x.1 x.2.1⟩ := f0 (cf (scarfjointref40_places.good k) (cf (bI.good k) cn)) [] [] Tryz.func49 (by kernel_rfl) fun x => by kernel_rfl
end Go.Ev
end
section
open Go.Proofs
namespace Go.Ev
theorem cG.good (k : Nat) : GC 72 ⟨.unit, (.pair (.int .i64) .unit), .bool, fun y x => cG x.1⟩ := c0 cn [(1, [(2, .bool)])] Tryz.func72 (by kernel_rfl) fun x y => by kernel_rfl
theorem co.good (k : Nat) : G 43 ⟨[(HL (.int .i64)), HI], [HB], fun x => co x.1 x.2.1⟩ := f0 (cf (af.good k) (cc (cG.good k) cn)) [] [(1, [(4, .bool)])] Tryz.func43 (by kernel_rfl) fun x => by kernel_rfl
theorem dh.good (k : Nat) : G 73 ⟨[.nilh, HI], [RI], fun x => dh x.2.1⟩ := f0 cn [] [] Tryz.func73 (by kernel_rfl) fun x => by kernel_rfl
theorem slices_Concat_lint.good (k : Nat) : G 44 ⟨[(HL (.slice (.int .i64)))], [RI], fun x => slices_Concat_lint x.1⟩ := by
 have c := cf (dh.good k) cn
 have l := ln c Tryz.f44 [] (by kernel_rfl)
 have l := lc c l [] 0 ⟨[0, 3, 9, 10, 11], [(HL (.slice (.int .i64))), HI, (HL (.slice (.int .i64))), HI, HI]⟩ [(.exit 0, ⟨[0, 3], [(HL (.slice (.int .i64))), HI]⟩)] (fun n x => slices_Concat_lint.l0 x.1 x.2.2.1 x.2.2.2.1 n x.2.1 x.2.2.2.2.1) (fun x => (Int.toNat x.2.2.2.1 + 1)) (fun x => by kernel_rfl) (fun n x => by kernel_rfl) (by kernel_rfl)
 have l := lc c l [] 2 ⟨[6, 25, 26, 27], [RI, (HL (.slice (.int .i64))), HI, HI]⟩ [(.exit 2, ⟨[6], [RI]⟩)] (fun n x => slices_Concat_lint.l2 x.2.1 x.2.2.1 n x.1 x.2.2.2.1) (fun x => (Int.toNat x.2.2.1 + 1)) (fun x => by kernel_rfl) (fun n x => by kernel_rfl) (by kernel_rfl)
 exact fo c l [] Tryz.func44 (by kernel_rfl) (fun x => by kernel_rfl)
theorem de.good (k : Nat) : GC 46 ⟨(.pair (.ptr (.slice (.int .i64))) (.pair (.ptr (.nm 15)) (.pair (.ptr (.int .i64)) .unit))), (.pair (.int .i64) .unit), .bool, fun y x => de x.1 y.1 y.2.1 y.2.2.1⟩ := c0 cn [] Tryz.func46 (by kernel_rfl) fun x y => by kernel_rfl
theorem dg.good (k : Nat) : GC 47 ⟨(.pair (.ptr (.slice (.int .i64))) (.pair (.ptr (.nm 15)) (.pair (.ptr (.int .i64)) .unit))), (.pair (.int .i64) .unit), .bool, fun y x => dg x.1 y.1 y.2.1 y.2.2.1⟩ := c0 cn [] Tryz.func47 (by kernel_rfl) fun x y => by kernel_rfl
theorem layering_Check.good (k : Nat) : G 20 ⟨[(HN 3), (HL (.nm 13)), (HN 15)], [HB], fun x => layering_Check k x.1 x.2.1 x.2.2.1⟩ := by
 have c := cf (layering_given.good k) (cf (co.good k) (cf (slices_Concat_lint.good k) (cf (af.good k) (cc (de.good k) (cc (dg.good k) cn)))))
 have l := ln c Tryz.f20 [] (by kernel_rfl)
 have l := lc c l [(10, [(72, .bool)]), (2, [(45, .bool)])] 0 ⟨[5, 9, 52, 53, 54], [(.boxh (.nm 15) (HN 15)), (.boxh (.slice (.int .i64)) RI), (RN 22), HI, HI]⟩ [(.exit 0, ⟨[], []⟩), (.ret, ⟨[6], [HB]⟩)] (fun n x => layering_Check.l0 x.1 x.2.1 x.2.2.1 x.2.2.2.1 n x.2.2.2.2.1) (fun x => (Int.toNat x.2.2.2.1 + 1)) (fun x => by kernel_rfl) (fun n x => by kernel_rfl) (by kernel_rfl)
 exact fo c l [(10, [(72, .bool)]), (2, [(45, .bool)])] Tryz.func20 (by kernel_rfl) (fun x => by kernel_rfl)
theorem scarfjointref40_in.good (k : Nat) : G 48 ⟨[(HL (.int .i64))], [HB], fun x => scarfjointref40_in k x.1⟩ := by
 have c := cn
 have l := ln c Tryz.f48 [] (by kernel_rfl)
 have l := lc c l [(4, [(21, .bool)])] 0 ⟨[0, 3], [(HL (.int .i64)), HI]⟩ [(.exit 0, ⟨[], []⟩), (.ret, ⟨[2], [HB]⟩)] (fun n x => scarfjointref40_in.l0 x.1 n x.2.1) (fun x => k) (fun x => by kernel_rfl) (fun n x => by kernel_rfl) (by kernel_rfl)
 exact fo c l [(4, [(21, .bool)])] Tryz.func48 (by kernel_rfl) (fun x => by kernel_rfl)
theorem bD.good (k : Nat) : G 50 ⟨[(HN 3), (HN 15), HI], [HI], fun x => bD x.1 x.2.1 x.2.2.1⟩ := f0 cn [] [] Tryz.func50 (by kernel_rfl) fun x => by kernel_rfl
theorem scarfjointref40_Check.good (k : Nat) : G 22 ⟨[(HN 3), (HL (.nm 13)), (HN 15)], [HB], fun x => scarfjointref40_Check k x.1 x.2.1 x.2.2.1⟩ := by
 have c := cf (scarfjointref40_Given.good k) (cf (bG.good k) (cf (scarfjointref40_in.good k) (cf (bJ.good k) (cf (bD.good k) cn))))
 have l := ln c Tryz.f22 [] (by kernel_rfl)
 have l := lc c l [(1, [(59, .bool)])] 2 ⟨[1, 3, 5, 7, 8, 9, 10], [(HL (.nm 13)), (.boxh (.nm 3) (HN 3)), (.boxh (.nm 15) (HN 15)), HI, RI, RI, HI]⟩ [(.exit 2, ⟨[1, 3, 5, 7, 9], [(HL (.nm 13)), (.boxh (.nm 3) (HN 3)), (.boxh (.nm 15) (HN 15)), HI, RI]⟩), (.ret, ⟨[6], [HB]⟩)] (fun n x => scarfjointref40_Check.l2 x.1 x.2.1 x.2.2.1 x.2.2.2.1 x.2.2.2.2.1 x.2.2.2.2.2.1 n x.2.2.2.2.2.2.1) (fun x => k) (fun x => by kernel_rfl) (fun n x => by kernel_rfl) (by kernel_rfl)
 have l := lc c l [(1, [(59, .bool)])] 4 ⟨[1, 3, 5, 7, 9, 11], [(HL (.nm 13)), (.boxh (.nm 3) (HN 3)), (.boxh (.nm 15) (HN 15)), HI, RI, HI]⟩ [(.exit 4, ⟨[1, 3, 5, 7], [(HL (.nm 13)), (.boxh (.nm 3) (HN 3)), (.boxh (.nm 15) (HN 15)), HI]⟩), (.ret, ⟨[6], [HB]⟩)] (fun n x => scarfjointref40_Check.l4 x.1 x.2.1 x.2.2.1 x.2.2.2.1 x.2.2.2.2.1 n x.2.2.2.2.2.1) (fun x => k) (fun x => by kernel_rfl) (fun n x => by kernel_rfl) (by kernel_rfl)
 have l := lc c l [(1, [(59, .bool)])] 0 ⟨[1, 3, 5, 7], [(HL (.nm 13)), (.boxh (.nm 3) (HN 3)), (.boxh (.nm 15) (HN 15)), HI]⟩ [(.exit 0, ⟨[], []⟩), (.ret, ⟨[6], [HB]⟩)] (fun n x => scarfjointref40_Check.l0 k n x.1 x.2.1 x.2.2.1 x.2.2.2.1) (fun x => k) (fun x => by kernel_rfl) (fun n x => by kernel_rfl) (by kernel_rfl)
 exact fo c l [(1, [(59, .bool)])] Tryz.func22 (by kernel_rfl) (fun x => by kernel_rfl)
theorem aG.good (k : Nat) : G 6 ⟨[(HN 3), (HL (.nm 13)), (HN 15)], [HB], fun x => aG k x.1 x.2.1 x.2.2.1⟩ := f0 (cf (bA.good k) (cf (scarfjointref40_Few.good k) (cf (layering_Check.good k) (cf (lib21.good k) (cf (scarfjointref40_Check.good k) cn))))) [] [(1, [(28, .bool)])] Tryz.func6 (by kernel_rfl) fun x => by kernel_rfl
end Go.Ev
end
section
open Go.Proofs
namespace Go.Ev
end Go.Ev
end
section
set_option linter.unusedVariables false
namespace Go.Ev.Pl
theorem jh {n : Int} (h : -9223372036854775808 ≤ n) (h' : n ≤ 9223372036854775807) : IntKind.i64.wrap n = n := by
 simp only [IntKind.wrap, IntKind.bits, IntKind.signed, Bool.true_and]
 split <;> rename_i h3 <;> simp at h3 <;> omega
theorem wS {i : Nat} (h : i < 4611686018427387904) : IntKind.i64.wrap ((i : Int) + 1) = ((i + 1 : Nat) : Int) := by
 rw [jh (by omega) (by omega)]; omega
theorem wL (a b : Bool) : cond a (some (true, ())) (some (b, ())) = some (a || b, ()) := by cases a <;> rfl
theorem pe (a b : Bool) : cond a (some (b, ())) (some (false, ())) = some (a && b, ()) := by cases a <;> rfl
theorem uo {α : Type} (a : Bool) (x y : α) : cond a (some x) (some y) = some (cond a x y) := by cases a <;> rfl
theorem eE {α : Type} (a : Bool) (x y : α) : cond a (some (x, ())) (some (y, ())) = some (cond a x y, ()) := by cases a <;> rfl
theorem jP (a b : Bool) : cond a b false = (a && b) := by cases a <;> rfl
theorem gT (a b : Bool) : cond a true b = (a || b) := by cases a <;> rfl
theorem idx_some {α : Type} {l : List α} {i : Nat} {x : α} (h : l[i]? = some x) : aB l (i : Int) = some x := by
 simp [aB, nth, h]
theorem wq {α : Type} {l : List α} {i : Nat} (h : i < l.length) : aB l (i : Int) = some l[i] := idx_some (List.getElem?_eq_getElem h)
theorem bB {α : Type} {l : List α} {i : Int} (h : 0 ≤ i) (h' : i < l.length) : ∃ x, aB l i = some x ∧ l[i.toNat]? = some x ∧ x ∈ l := by
 have : i.toNat < l.length := by omega
 exact ⟨l[i.toNat], by simp [aB, nth, h, this], by simp [this], by simp⟩
def db {B : Type} (g : Nat → Option B) : Nat → Nat → Option B
 | _, 0 => none
 | i, c + 1 => match g i with | some b => some b | none => db g (i + 1) c
theorem lT {A B : Type} {F : Nat → Int → Option (Sum A B)} (N : Nat) (a : A) (g : Nat → Option B) (i0 : Nat)
  (hN : ∀ n (i : Nat), N ≤ i → F (n + 1) (i : Int) = some (.inl a))
  (hS : ∀ n (i : Nat), i0 ≤ i → i < N → (∀ j, i0 ≤ j → j < i → g j = none) → F (n + 1) (i : Int) = match g i with | some b => some (.inr b) | none => F n ((i + 1 : Nat) : Int))
  (fuel : Nat) (hf : N - i0 < fuel) : F fuel (i0 : Int) = some ((db g i0 (N - i0)).elim (.inl a) .inr) := by
 suffices H : ∀ c i fuel, N - i = c → i0 ≤ i → N - i < fuel → (∀ j, i0 ≤ j → j < i → g j = none) → F fuel (i : Int) = some ((db g i c).elim (.inl a) .inr) from
  H _ i0 fuel rfl (Nat.le_refl _) hf (fun j h h' => by omega)
 intro c
 induction c with
 | zero =>
  intro i fuel hc hi hf hp
  cases fuel with
  | zero => omega
  | succ n => rw [hN n i (by omega)]; rfl
 | succ c ih =>
  intro i fuel hc hi hf hp
  cases fuel with
  | zero => omega
  | succ n =>
   rw [hS n i hi (by omega) hp, db]
   cases hg : g i with
   | some b => rfl
   | none =>
    exact ih (i + 1) n (by omega) (by omega) (by omega) fun j h1 h2 => by
     by_cases e : j = i
     ·subst e; exact hg
     ·exact hp j h1 (by omega)
theorem mn {B : Type} {g : Nat → Option B} : ∀ {c i : Nat}, db g i c = none ↔ ∀ j, i ≤ j → j < i + c → g j = none
 | 0, i => by simp [db]; intro j h1 h2; omega
 | c + 1, i => by
  rw [db]
  cases hg : g i with
  | some b => simp only [reduceCtorEq, false_iff]; intro h; have := h i (Nat.le_refl _) (by omega); rw [hg] at this; cases this
  | none =>
   simp only []
   rw [mn]
   constructor
   ·intro h j h1 h2
    by_cases e : j = i
    ·subst e; exact hg
    ·exact h j (by omega) (by omega)
   ·intro h j h1 h2; exact h j (by omega) (by omega)
theorem dN {B : Type} {g : Nat → Option B} {b : B} : ∀ {c i : Nat}, db g i c = some b → ∃ j, i ≤ j ∧ j < i + c ∧ g j = some b ∧ ∀ j', i ≤ j' → j' < j → g j' = none
 | 0, i, h => by simp [db] at h
 | c + 1, i, h => by
  rw [db] at h
  cases hg : g i with
  | some b' => rw [hg] at h; cases h; exact ⟨i, Nat.le_refl _, by omega, hg, fun j' h1 h2 => by omega⟩
  | none =>
   rw [hg] at h
   obtain ⟨j, h1, h2, h3, h4⟩ := dN h
   exact ⟨j, by omega, by omega, h3, fun j' h5 h6 => by
    by_cases e : j' = i
    ·subst e; exact hg
    ·exact h4 j' (by omega) h6⟩
theorem ti {α B : Type} (p : α → Bool) (b : B) (l : List α) (g : Nat → Option B) (h : ∀ j x, l[j]? = some x → g j = cond (p x) (some b) none) : db g 0 l.length = cond (l.any p) (some b) none := by
 suffices H : ∀ (l : List α) (i : Nat), (∀ j x, l[j]? = some x → g (i + j) = cond (p x) (some b) none) → db g i l.length = cond (l.any p) (some b) none from H l 0 (fun j x hx => by rw [Nat.zero_add]; exact h j x hx)
 intro l
 induction l with
 | nil => intro i h; rfl
 | cons x l ih =>
  intro i h
  rw [List.length_cons, db, show g i = _ from h 0 x rfl, List.any_cons]
  cases hp : p x with
  | true => rfl
  | false =>
   simp only [cond_false, Bool.false_or]
   exact ih (i + 1) fun j y hy => by rw [show i + 1 + j = i + (j + 1) by omega]; exact h (j + 1) y (by simpa using hy)
def lA {α : Type} (q0 : List α) (q1 : (α × Unit) → Option Bool) (q2 : Int) : Nat → Int → Option (Sum Unit (Int × Unit))
 | 0, _ => none
 | n + 1, q3 =>
  cond (decide (q3 < q2))
  ((aB q0 q3).bind fun x3 =>
  (q1 (x3, ())).bind fun r4 =>
  cond r4
  (some (Sum.inr (q3, ())))
  (lA q0 q1 q2 n (IntKind.i64.wrap (q3 + (1 : Int)))))
  (some (Sum.inl (())))
def kK {α : Type} (a0 : List α) (a1 : (α × Unit) → Option Bool) : Option (Int × Unit) :=
  (lA a0 a1 (a0.length : Int) (Int.toNat (a0.length : Int) + 1) (0 : Int)).bind fun o5 =>
  aF o5
  (fun y6 => some ((-1 : Int), ()))
  (fun z7 => some (z7.1, ()))
def gK {α : Type} (a0 : List α) (a1 : (α × Unit) → Option Bool) : Option (Bool × Unit) :=
  (kK a0 a1).bind fun r1 =>
  some ((decide (r1.1 ≥ (0 : Int))), ())
def Sm (n : Nat) : Prop := n ≤ 4611686018427387903
theorem nB {α : Type} {l : List α} {q : (α × Unit) → Option Bool} {p : α → Bool} (hp : ∀ x ∈ l, q (x, ()) = some (p x)) (hl : Sm l.length) :
  lA l q (l.length : Int) (Int.toNat (l.length : Int) + 1) 0 = some ((db (fun i => (l[i]?).bind fun x => cond (p x) (some ((i : Int), ())) none) 0 l.length).elim (.inl ()) .inr) := by
 refine lT (F := lA l q (l.length : Int)) l.length () _ 0 (fun n i h => ?_) (fun n i _ h _ => ?_) _ (by omega)
 ·have : ¬ ((i : Int) < l.length) := by omega
  simp [lA, this]
 ·unfold Sm at hl
  have h2 : (i : Int) < l.length := by omega
  simp only [lA, h2, decide_true, cond_true, wq h, Option.bind_some, hp _ (List.getElem_mem h), List.getElem?_eq_getElem h, wS (show i < 4611686018427387904 by omega)]
  cases p l[i] <;> rfl
def vz (o : Option Nat) : Int := match o with | some i => (i : Int) | none => -1
theorem lF {α : Type} {l : List α} {q : (α × Unit) → Option Bool} {p : α → Bool} (hp : ∀ x ∈ l, q (x, ()) = some (p x)) (hl : Sm l.length) :
  kK l q = some (vz (l.findIdx? p), ()) := by
 rw [kK, nB hp hl]
 have key : ∀ (l : List α) (k : Nat) (g : Nat → Option (Int × Unit)), (∀ i x, l[i]? = some x → g (k + i) = cond (p x) (some (((k + i : Nat) : Int), ())) none) →
   db g k l.length = (l.findIdx? p).map fun i => (((k + i : Nat) : Int), ()) := by
  intro l
  induction l with
  | nil => intro k g h; rfl
  | cons x l ih =>
   intro k g h
   rw [List.length_cons, db, show g k = _ from h 0 x rfl, List.findIdx?_cons]
   cases hx : p x with
   | true => rfl
   | false =>
    simp only [cond_false, Bool.false_eq_true, if_false, Option.map_map]
    rw [ih (k + 1) g fun i y hy => by rw [show k + 1 + i = k + (i + 1) by omega]; exact h (i + 1) y (by simpa using hy)]
    congr 1
    funext i
    simp only [Function.comp]
    congr 2
    omega
 rw [key l 0 _ fun i x hx => by simp [hx]]
 cases l.findIdx? p <;> simp [aF, vz]
theorem bu {α : Type} {l : List α} {q : (α × Unit) → Option Bool} {p : α → Bool} (hp : ∀ x ∈ l, q (x, ()) = some (p x)) (hl : Sm l.length) :
  gK l q = some (l.any p, ()) := by
 rw [gK, lF hp hl]
 simp only [Option.bind_some, vz]
 cases h : l.findIdx? p with
 | none =>
  have : l.any p = false := by rw [List.findIdx?_eq_none_iff] at h; rw [List.any_eq_false]; simpa using h
  simp [this]
 | some i =>
  have : l.any p = true := by
   have := List.findIdx?_eq_some_iff_getElem.1 h
   obtain ⟨h1, h2, _⟩ := this
   exact List.any_eq_true.2 ⟨_, List.getElem_mem h1, h2⟩
  have h0 : (i : Int) ≥ 0 := by omega
  rw [this]
  simp [h0]
theorem wh : @cQ = @gK aY := by kernel_rfl
theorem uY : @fL = @gK bT := by kernel_rfl
theorem xn : @dS = @gK bl := by kernel_rfl
theorem kq : @af = @gK Int := by kernel_rfl
theorem oS : @cZ = @gK Edge := by kernel_rfl
theorem sg : @eA = @gK dM := by kernel_rfl
theorem vr : @bm = @gK ae := by kernel_rfl
end Go.Ev.Pl
end
section
set_option linter.unusedVariables false
namespace Go.Ev.Pl
theorem wE (l : List ByteArray) (x : ByteArray) : aP l x = gK l (fun y => some (cT x y.1)) := by kernel_rfl
theorem xQ (l : List Int) (x : Int) : bo l x = gK l (fun y => some (x == y.1)) := by kernel_rfl
theorem xO (l : List Bool) (x : Bool) : bW l x = gK l (fun y => some (x == y.1)) := by kernel_rfl
theorem nk {l : List ByteArray} (x : ByteArray) (h : Sm l.length) : aP l x = some (l.any (cT x), ()) := by
 rw [wE]; exact bu (p := cT x) (fun _ _ => rfl) h
theorem rJ {l : List Int} (x : Int) (h : Sm l.length) : bo l x = some (l.any (x == ·), ()) := by
 rw [xQ]; exact bu (p := (x == ·)) (fun _ _ => rfl) h
theorem vH {l : List Bool} (x : Bool) (h : Sm l.length) : bW l x = some (l.any (x == ·), ()) := by
 rw [xO]; exact bu (p := (x == ·)) (fun _ _ => rfl) h
def qo (c : Int) : Bool := decide (c ≥ 97) && decide (c ≤ 122) || decide (c ≥ 65) && decide (c ≤ 90)
def qp (c : Int) : Bool := decide (c ≥ 48) && decide (c ≤ 57)
def pB (c : Int) : Bool := qo c || qp c || c == 95
theorem iO (c : Int) : dG c = some (qo c, ()) := by
 simp only [dG, qo]
 cases decide (c ≥ 97) <;> cases decide (c ≤ 122) <;> cases decide (c ≥ 65) <;> cases decide (c ≤ 90) <;> rfl
theorem kt (c : Int) : bx c = some (qo c, ()) := iO c
theorem iS (c : Int) : cJ c = some (qp c, ()) := by
 simp only [cJ, qp, pe, Option.bind_some]
theorem lE (c : Int) : aO c = some (qp c, ()) := iS c
theorem vk (c : Int) : eU c = some (pB c, ()) := by
 simp only [eU, iO, iS, Option.bind_some, pB, wL]
 rw [Bool.or_assoc]
def bs (s : ByteArray) : List Int := s.data.toList.map fun b => (b.toNat : Int)
theorem i7 (s : ByteArray) : (bs s).length = s.size := by
 show (s.data.toList.map _).length = s.data.size
 simp
theorem kM (s : ByteArray) (i : Nat) : jR s (i : Int) = (bs s)[i]? := by
 simp [jR, bs]
def iv (p : Int → Bool) (s : ByteArray) : Nat := ((bs s).takeWhile p).length
theorem rE {α : Type} (p : α → Bool) : ∀ (l : List α) (i : Nat), (∀ j x, j < i → l[j]? = some x → p x = true) → i ≤ l.length → (l.takeWhile p).length = i + ((l.drop i).takeWhile p).length
 | l, 0, _, _ => by simp
 | [], i + 1, _, h => by simp at h
 | x :: l, i + 1, h, hl => by
  have hx := h 0 x (by omega) rfl
  have := rE p l i (fun j y hj hy => h (j + 1) y (by omega) (by simpa using hy)) (by simpa using hl)
  simp [hx, this]; omega
theorem sy {p : Int → Bool} {s : ByteArray} {F : Nat → Int → Option (Int × Unit)} (hl : Sm s.size)
  (h0 : ∀ n, F (n + 1) (s.size : Int) = some ((s.size : Int), ()))
  (h1 : ∀ n (i : Nat) c, (bs s)[i]? = some c → F (n + 1) (i : Int) = cond (p c) (F n ((i + 1 : Nat) : Int)) (some ((i : Int), ()))) :
  ∀ fuel, s.size < fuel → F fuel 0 = some ((iv p s : Int), ()) := by
 suffices H : ∀ (fuel i : Nat), i ≤ s.size → s.size - i < fuel → (∀ j x, j < i → (bs s)[j]? = some x → p x = true) → F fuel (i : Int) = some ((iv p s : Int), ()) from
  fun fuel hf => H fuel 0 (by omega) (by omega) (fun j x h => by omega)
 intro fuel
 induction fuel with
 | zero => intro i h h'; omega
 | succ n ih =>
  intro i hi hf hp
  have hr := rE p (bs s) i hp (by rw [i7]; exact hi)
  by_cases e : i = s.size
  ·subst e
   rw [h0 n]
   have : (bs s).drop s.size = [] := by rw [← i7]; simp
   rw [this] at hr
   simp only [List.takeWhile_nil, List.length_nil, Nat.add_zero] at hr
   rw [iv, hr]
  ·have hlt : i < (bs s).length := by rw [i7]; omega
   have hg : (bs s)[i]? = some (bs s)[i] := by simp [hlt]
   rw [h1 n i _ hg]
   rw [List.drop_eq_getElem_cons hlt, List.takeWhile_cons] at hr
   cases hc : p (bs s)[i] with
   | true =>
    exact ih (i + 1) (by omega) (by omega) fun j x hj hx => by
     by_cases e2 : j = i
     ·subst e2; rw [hg] at hx; cases hx; exact hc
     ·exact hp j x (by omega) hx
   | false =>
    rw [hc] at hr
    simp only [Bool.false_eq_true, if_false, List.length_nil, Nat.add_zero] at hr
    rw [iv, hr]; rfl
theorem qA {k : Nat} {s : ByteArray} {q : (Int × Unit) → Option Bool} {p : Int → Bool} (hp : ∀ c, q (c, ()) = some (p c)) (hl : Sm s.size) (hk : s.size < k) : token_run k s q = some ((iv p s : Int), ()) := by
 rw [token_run, sy (p := p) (s := s) (F := token_run.l0 s q) hl (fun n => ?_) (fun n i c hc => ?_) k hk]
 ·rfl
 ·simp [token_run.l0]
 ·have h2 : i < s.size := by have := List.getElem?_eq_some_iff.1 hc; rw [← i7]; exact this.1
  have h3 : (i : Int) < s.size := by omega
  unfold Sm at hl
  simp only [token_run.l0, h3, decide_true, cond_true, kM, hc, Option.bind_some, hp, wS (show i < 4611686018427387904 by omega)]
theorem rF {k : Nat} {s : ByteArray} (b : Bool) (hl : Sm s.size) (hk : s.size < k) : scarfjointref01_run k s 0 b = some ((iv (fun c => qp c || !b && (qo c || c == 95)) s : Int), ()) := by
 have hw : ∀ i : Nat, i < 4611686018427387904 → IntKind.i64.wrap (0 + (i : Int)) = (i : Int) := fun i h => by rw [jh (by omega) (by omega)]; omega
 rw [scarfjointref01_run, sy (p := fun c => qp c || !b && (qo c || c == 95)) (s := s) (F := scarfjointref01_run.l0 s 0 b) hl (fun n => ?_) (fun n i c hc => ?_) k hk]
 ·rfl
 ·unfold Sm at hl
  simp only [scarfjointref01_run.l0, hw _ (show s.size < 4611686018427387904 by omega)]
  simp
 ·have h2 : i < s.size := by have := List.getElem?_eq_some_iff.1 hc; rw [← i7]; exact this.1
  have h3 : (i : Int) < s.size := by omega
  unfold Sm at hl
  simp only [scarfjointref01_run.l0, hw i (by omega), h3, decide_true, cond_true, kM, hc, Option.bind_some, lE, kt, wL, pe, wS (show i < 4611686018427387904 by omega)]
def iL (s : ByteArray) : Bool := match (bs s)[0]? with | none => false | some c => qo c && decide (iv pB s ≤ 20) && (iv pB s == s.size)
theorem p8 (s : ByteArray) : cT s (⟨#[]⟩ : ByteArray) = (s.size == 0) := by
 obtain ⟨⟨l⟩⟩ := s
 cases l <;> simp [cT, ByteArray.size]
theorem we {s : ByteArray} (h : 0 < s.size) : ∃ c, jR s 0 = some c ∧ (bs s)[0]? = some c := by
 have h' : 0 < (bs s).length := by rw [i7]; exact h
 refine ⟨(bs s)[0], ?_, by simp [h']⟩
 rw [show (0 : Int) = ((0 : Nat) : Int) from rfl, kM]; simp [h']
theorem yg {c : Int} (h : qo c = true) : qp c = false := by
 simp only [qo, qp, Bool.or_eq_true, Bool.and_eq_true, decide_eq_true_eq, Bool.and_eq_false_imp, decide_eq_false_iff_not] at *
 omega
theorem oK (p : Int → Bool) (s : ByteArray) : iv p s ≤ s.size := by
 rw [← i7]; exact (List.takeWhile_sublist p).length_le
theorem tb {k : Nat} {s : ByteArray} (h : 0 < s.size) (hl : Sm s.size) (hk : s.size < k) : ∃ n e, eY k s = some (n, e, ()) := by
 have hs : (s.extract 1 s.size).size = s.size - 1 := by simp [ByteArray.size_extract]
 have hr := oK (fun c => decide (c ≥ 32) && (decide (c ≤ 126) && (c != 34))) (s.extract 1 s.size)
 have e1 : token_run k (s.extract 1 (Int.toNat (s.size : Int))) (fun z1 => dY z1.1) = some ((iv (fun c => decide (c ≥ 32) && (decide (c ≤ 126) && (c != 34))) (s.extract 1 s.size) : Int), ()) := by
  rw [Int.toNat_natCast]
  refine qA (fun c => ?_) (by unfold Sm at *; omega) (by omega)
  simp only [dY, pe, Option.bind_some]
 have hb : (decide (0 ≤ (1 : Int)) && decide ((1 : Int) ≤ (s.size : Int)) && decide ((s.size : Int) ≤ (s.size : Int))) = true := by simp; omega
 rw [eY, hb, cond_true, e1]
 generalize iv (fun c => decide (c ≥ 32) && (decide (c ≤ 126) && (c != 34))) (s.extract 1 s.size) = r at *
 unfold Sm at hl
 have hw : IntKind.i64.wrap (1 + (r : Int)) = ((1 + r : Nat) : Int) := by rw [jh (by omega) (by omega)]; omega
 simp only [Option.bind_some, hw, kM]
 by_cases h1 : 1 + r = s.size
 ·have : (((1 + r : Nat) : Int) == (s.size : Int)) = true := by simp; omega
  rw [this]; exact ⟨_, _, rfl⟩
 ·have : (((1 + r : Nat) : Int) == (s.size : Int)) = false := by simp; omega
  have h2 : 1 + r < (bs s).length := by rw [i7]; omega
  simp only [this, cond_false, List.getElem?_eq_getElem h2, Option.bind_some]
  cases ((bs s)[1 + r] != 34) with
  | true => exact ⟨_, _, rfl⟩
  | false =>
   simp only [cond_false]
   cases decide ((r : Int) > 60) <;> exact ⟨_, _, rfl⟩
theorem vU (s : ByteArray) : ∃ b, gh s = some (b, ()) := by
 simp only [gh]
 by_cases h : (s.size : Int) ≥ 2
 ·have h' : (2 : Int) ≤ s.size := h
  simp only [h, h', decide_true, cond_true, Bool.and_true, Int.le_refl, show (0 : Int) ≤ 2 by omega]
  rw [nk _ (by simp [Sm])]
  exact ⟨_, rfl⟩
 ·simp only [h, decide_false, cond_false]; exact ⟨_, rfl⟩
theorem vG {k : Nat} {s : ByteArray} {c : Int} (h0 : jR s 0 = some c) (hc : qo c = false) (h : 0 < s.size) (hl : Sm s.size) (hk : s.size < k) : ∃ n m e, eB k s = some (n, m, e, ()) ∧ (n == 1) = false := by
 simp only [eB, h0, Option.bind_some, iO, iS, hc, cond_false]
 cases qp c with
 | true =>
  rw [cond_true, qA (p := qp) (fun c => by simp [iS]) hl hk]
  simp only [Option.bind_some]
  cases decide ((iv qp s : Int) > 9)
  ·exact ⟨_, _, _, rfl, rfl⟩
  ·exact ⟨_, _, _, rfl, rfl⟩
 | false =>
  rw [cond_false]
  cases (c == 34) with
  | true =>
   obtain ⟨n, e, h1⟩ := tb h hl hk
   rw [cond_true, h1]
   exact ⟨_, _, _, rfl, rfl⟩
  | false =>
   obtain ⟨b, h1⟩ := vU s
   rw [cond_false, h1]
   simp only [Option.bind_some]
   cases b with
   | true => exact ⟨_, _, _, rfl, rfl⟩
   | false =>
    simp only [cond_false, indexByte, Option.bind_some]
    cases decide (Lib.indexByte _ _ ≥ 0)
    ·exact ⟨_, _, _, rfl, rfl⟩
    ·exact ⟨_, _, _, rfl, rfl⟩
theorem xa {k : Nat} {s : ByteArray} (hl : Sm s.size) (hk : s.size < k) : bF k s = some (iL s, ()) := by
 simp only [bF, gI]
 rw [show ((1 : Int) == 3) = false from rfl, cond_false, p8]
 cases h0 : s.size == 0 with
 | true =>
  have : (bs s)[0]? = none := List.getElem?_eq_none (by rw [i7]; have := beq_iff_eq.1 h0; omega)
  simp [iL, this]
 | false =>
  have hpos : 0 < s.size := by have := beq_eq_false_iff_ne.1 h0; omega
  obtain ⟨c, h1, h2⟩ := we hpos
  simp only [cond_false, eB, h1, Option.bind_some, iO, iS, iL, h2]
  cases hL : qo c with
  | true =>
   rw [cond_true, qA (p := pB) (fun c => by simp [vk]) hl hk]
   simp only [Option.bind_some, Bool.true_and]
   by_cases h3 : iv pB s ≤ 20
   ·have : ¬ ((iv pB s : Int) > 20) := by omega
    simp only [this, h3, decide_true, decide_false, cond_false, Option.bind_some, Bool.true_and, beq_self_eq_true, cond_true]
    congr 2
    rw [Bool.eq_iff_iff]; simp; omega
   ·have : ((iv pB s : Int) > 20) := by omega
    simp [this, h3]
  | false =>
   rw [cond_false]
   obtain ⟨n, m, e, g1, g2⟩ := vG h1 hL hpos hl hk
   have g1' := g1
   simp only [eB, h1, Option.bind_some, iO, iS, hL, cond_false] at g1'
   rw [g1']
   simp only [Option.bind_some, g2, cond_false]
   cases (e == 0) <;> rfl
theorem qz {k : Nat} {s : ByteArray} (h : 0 < s.size) (hl : Sm s.size) (hk : s.size < k) : ∃ n : Nat, scarfjointref01_quoted k s 0 = some ((n : Int), ()) ∧ (n = 0 ∨ 2 ≤ n ∧ n ≤ s.size) := by
 unfold Sm at hl
 have hw : ∀ i : Nat, i < 4611686018427387904 → IntKind.i64.wrap (0 + (i : Int)) = (i : Int) := fun i h => by rw [jh (by omega) (by omega)]; omega
 have := lT (F := fun n i => cond (decide (i ≤ s.size)) (scarfjointref01_quoted.l0 s 0 n i) (cond (Nat.beq n 0) none (some (.inl ())))) s.size () (fun i => (bs s)[i]?.bind fun c => cond (c == 34) (some ((((i + 1 : Nat) : Int), ()) : Int × Unit)) (cond (decide (c < 32) || decide (c > 126)) (some (0, ())) none)) 1 (fun n i h => ?_) (fun n i _ h1 _ => ?_) k (by omega)
 ·rw [show ((1 : Nat) : Int) = 1 from rfl] at this
  have h1 : (1 : Int) ≤ s.size := by omega
  simp only [h1, decide_true, cond_true] at this
  rw [scarfjointref01_quoted, this]
  simp only [Option.bind_some]
  cases hf : db (fun i => (bs s)[i]?.bind fun c => cond (c == 34) (some ((((i + 1 : Nat) : Int), ()) : Int × Unit)) (cond (decide (c < 32) || decide (c > 126)) (some (0, ())) none)) 1 (s.size - 1) with
  | none => exact ⟨0, rfl, .inl rfl⟩
  | some b =>
   obtain ⟨j, j1, j2, j3, _⟩ := dN hf
   obtain ⟨c, _, j5⟩ := Option.bind_eq_some_iff.1 j3
   cases hc : (c == 34) with
   | true => rw [hc, cond_true] at j5; cases j5; exact ⟨j + 1, rfl, .inr ⟨by omega, by omega⟩⟩
   | false =>
    rw [hc, cond_false] at j5
    cases hd : (decide (c < 32) || decide (c > 126)) with
    | true => rw [hd, cond_true] at j5; cases j5; exact ⟨0, rfl, .inl rfl⟩
    | false => rw [hd, cond_false] at j5; cases j5
 ·by_cases e : i = s.size
  ·subst e
   simp only [Int.le_refl, decide_true, cond_true, scarfjointref01_quoted.l0, hw _ (show s.size < 4611686018427387904 by omega)]
   simp
  ·have : ¬ ((i : Int) ≤ s.size) := by omega
   simp only [this, decide_false, cond_false]
   rfl
 ·have h2 : (i : Int) ≤ s.size := by omega
  have h3 : ((i + 1 : Nat) : Int) ≤ s.size := by omega
  have h4 : (i : Int) < s.size := by omega
  have h5 : i < (bs s).length := by rw [i7]; omega
  simp only [h2, h3, h4, decide_true, cond_true, scarfjointref01_quoted.l0, hw i (by omega), kM, List.getElem?_eq_getElem h5, Option.bind_some, wL, wS (show i < 4611686018427387904 by omega)]
  cases ((bs s)[i] == 34) <;> cases (decide ((bs s)[i] < 32) || decide ((bs s)[i] > 126)) <;> rfl
theorem tE {k : Nat} (s : ByteArray) (t : dT) (hk : 26 < k) : ∃ l, cE = some (l, ()) ∧ ∃ o, scarfjointref01_one.l0 s 0 t l k 0 = some o ∧ ∀ z, o = .inr z → z.1.kind = 4 := by
 refine ⟨_, rfl, ?_⟩
 generalize hl : ([(⟨#[45, 62]⟩ : ByteArray), (⟨#[60, 61]⟩ : ByteArray), (⟨#[62, 61]⟩ : ByteArray), (⟨#[61, 61]⟩ : ByteArray), (⟨#[33, 61]⟩ : ByteArray), (⟨#[123]⟩ : ByteArray), (⟨#[125]⟩ : ByteArray), (⟨#[40]⟩ : ByteArray), (⟨#[41]⟩ : ByteArray), (⟨#[91]⟩ : ByteArray), (⟨#[93]⟩ : ByteArray), (⟨#[44]⟩ : ByteArray), (⟨#[59]⟩ : ByteArray), (⟨#[58]⟩ : ByteArray), (⟨#[61]⟩ : ByteArray), (⟨#[43]⟩ : ByteArray), (⟨#[45]⟩ : ByteArray), (⟨#[42]⟩ : ByteArray), (⟨#[60]⟩ : ByteArray), (⟨#[62]⟩ : ByteArray), (⟨#[33]⟩ : ByteArray), (⟨#[38]⟩ : ByteArray), (⟨#[124]⟩ : ByteArray), (⟨#[46]⟩ : ByteArray), (⟨#[63]⟩ : ByteArray)]) = l
 have h1 : l.length = 25 := by subst hl; rfl
 have h2 : ∀ x ∈ l, x.size ≤ 2 := by subst hl; decide
 clear hl
 have hw : ∀ i : Nat, i < 4611686018427387904 → IntKind.i64.wrap (0 + (i : Int)) = (i : Int) := fun i h => by rw [jh (by omega) (by omega)]; omega
 have := lT (F := scarfjointref01_one.l0 s 0 t l) l.length (t, ()) (fun i => l[i]?.bind fun x => cond (decide ((x.size : Int) ≤ s.size) && cT (s.extract 0 x.size) x) (some ((⟨4, x, 0⟩ : dT), ((x.size : Int), ((0 : Int), ())))) none) 0 (fun n i h => ?_) (fun n i _ h _ => ?_) k (by omega)
 ·refine ⟨_, this, fun z hz => ?_⟩
  cases hf : db (fun i => l[i]?.bind fun x => cond (decide ((x.size : Int) ≤ s.size) && cT (s.extract 0 x.size) x) (some ((⟨4, x, 0⟩ : dT), ((x.size : Int), ((0 : Int), ())))) none) 0 (l.length - 0) with
  | none => rw [hf] at hz; cases hz
  | some b =>
   rw [hf] at hz
   cases hz
   obtain ⟨j, _, _, j3, _⟩ := dN hf
   obtain ⟨c, _, j5⟩ := Option.bind_eq_some_iff.1 j3
   cases hd : (decide ((c.size : Int) ≤ s.size) && cT (s.extract 0 c.size) c) with
   | true => rw [hd, cond_true] at j5; cases j5; rfl
   | false => rw [hd, cond_false] at j5; cases j5
 ·have : ¬ ((i : Int) < l.length) := by omega
  simp [scarfjointref01_one.l0, this]
 ·have h3 : (i : Int) < l.length := by omega
  have h4 : (decide (0 ≤ (i : Int)) && decide ((i : Int) < (l.length : Int))) = true := by simp [h3]
  have h5 := h2 _ (List.getElem_mem h)
  simp only [scarfjointref01_one.l0, h3, h4, decide_true, cond_true, nth, Int.toNat_natCast, List.getElem?_eq_getElem h, Option.bind_some, hw _ (show l[i].size < 4611686018427387904 by omega), wS (show i < 4611686018427387904 by omega)]
  by_cases h6 : (l[i].size : Int) ≤ s.size
  ·have h7 : (decide (0 ≤ (0 : Int)) && decide (0 ≤ (l[i].size : Int)) && decide ((l[i].size : Int) ≤ (s.size : Int))) = true := by simp [h6]
   simp only [h6, h7, decide_true, cond_true, Option.bind_some, Bool.true_and, show Int.toNat 0 = 0 from rfl]
   cases cT (s.extract 0 l[i].size) l[i] <;> rfl
  ·simp [h6]
theorem wk {k : Nat} {s : ByteArray} {c : Int} (h0 : jR s 0 = some c) (hc : qo c = false) (h : 0 < s.size) (hl : Sm s.size) (hk : s.size < k) (hk' : 26 < k) : ∃ t m e, scarfjointref01_one k s 0 = some (t, m, e, ()) ∧ ((e == 0) = false ∨ (t.kind == 1) = false) := by
 unfold Sm at hl
 have hw : ∀ i : Nat, i < 4611686018427387904 → IntKind.i64.wrap (0 + (i : Int)) = (i : Int) := fun i h => by rw [jh (by omega) (by omega)]; omega
 simp only [scarfjointref01_one, h0, Option.bind_some, kt, lE, hc, cond_false]
 cases qp c with
 | true =>
  rw [cond_true, rF true hl hk]
  have hr := oK (fun c => qp c || !true && (qo c || c == 95)) s
  generalize iv (fun c => qp c || !true && (qo c || c == 95)) s = r at *
  simp only [Option.bind_some, cond_true, hw r (by omega)]
  cases decide ((r : Int) > 9) with
  | true => exact ⟨_, _, _, rfl, .inl rfl⟩
  | false =>
   have : (decide (0 ≤ (0 : Int)) && decide (0 ≤ (r : Int)) && decide ((r : Int) ≤ (s.size : Int))) = true := by simp; omega
   rw [cond_false, this]
   exact ⟨_, _, _, rfl, .inr rfl⟩
 | false =>
  rw [cond_false]
  cases (c == 34) with
  | true =>
   obtain ⟨n, h1, h2⟩ := qz h hl hk
   rw [cond_true, h1]
   simp only [Option.bind_some]
   rcases h2 with rfl | ⟨h2, h3⟩
   ·exact ⟨_, _, _, rfl, .inl rfl⟩
   ·have e1 : ((n : Int) == 0) = false := by simp; omega
    have e2 : IntKind.i64.wrap ((n : Int) - 1) = ((n - 1 : Nat) : Int) := by rw [jh (by omega) (by omega)]; omega
    have e3 : IntKind.i64.wrap (0 + (1 : Int)) = 1 := hw 1 (by omega)
    rw [e1, cond_false, hw n (by omega), e2, e3]
    cases decide (IntKind.i64.wrap ((n : Int) - 2) > 60) with
    | true => exact ⟨_, _, _, rfl, .inl rfl⟩
    | false =>
     have : (decide (0 ≤ (1 : Int)) && decide ((1 : Int) ≤ ((n - 1 : Nat) : Int)) && decide (((n - 1 : Nat) : Int) ≤ (s.size : Int))) = true := by simp; omega
     rw [cond_false, this]
     exact ⟨_, _, _, rfl, .inr rfl⟩
  | false =>
   obtain ⟨l, h1, o, h2, h3⟩ := tE s ⟨0, ⟨#[]⟩, 0⟩ hk'
   rw [cond_false, h1]
   simp only [Option.bind_some, h2]
   cases o with
   | inl y => exact ⟨_, _, _, rfl, .inl rfl⟩
   | inr z => exact ⟨_, _, _, rfl, .inr (by rw [h3 z rfl]; rfl)⟩
theorem xv {k : Nat} {s : ByteArray} (hl : Sm s.size) (hk : s.size < k) (hk' : 26 < k) : ap k s = some (iL s, ()) := by
 simp only [ap, cD, cK]
 rw [show ((1 : Int) == 3) = false from rfl, cond_false]
 simp only [Option.bind_some, p8]
 cases h0 : s.size == 0 with
 | true =>
  have : (bs s)[0]? = none := List.getElem?_eq_none (by rw [i7]; have := beq_iff_eq.1 h0; omega)
  simp [iL, this]
 | false =>
  have hpos : 0 < s.size := by have := beq_eq_false_iff_ne.1 h0; omega
  obtain ⟨c, h1, h2⟩ := we hpos
  rw [cond_false]
  simp only [iL, h2]
  cases hL : qo c with
  | true =>
   have hD := yg hL
   have hp : (fun c => qp c || !false && (qo c || c == 95)) = pB := by
    funext c; simp only [pB, Bool.not_false, Bool.true_and]; cases qo c <;> cases qp c <;> rfl
   have hr := oK pB s
   have hl' := hl
   unfold Sm at hl'
   have hw : ∀ i : Nat, i < 4611686018427387904 → IntKind.i64.wrap (0 + (i : Int)) = (i : Int) := fun i h => by rw [jh (by omega) (by omega)]; omega
   simp only [scarfjointref01_one, h1, Option.bind_some, kt, lE, hL, hD, cond_false, cond_true, rF false hl hk, hp, Bool.true_and, hw (iv pB s) (by omega)]
   by_cases h3 : iv pB s ≤ 20
   ·have h4 : ¬ ((iv pB s : Int) > 20) := by omega
    have h5 : (decide (0 ≤ (0 : Int)) && decide (0 ≤ (iv pB s : Int)) && decide ((iv pB s : Int) ≤ (s.size : Int))) = true := by simp; omega
    simp only [h4, h3, h5, decide_true, decide_false, cond_false, cond_true, Option.bind_some, Bool.true_and, beq_self_eq_true, pe, Bool.and_true]
    congr 2
    rw [Bool.eq_iff_iff]; simp; omega
   ·have : ((iv pB s : Int) > 20) := by omega
    simp [this, h3]
  | false =>
   obtain ⟨t, m, e, g1, g2⟩ := wk h1 hL hpos hl hk hk'
   rw [g1]
   simp only [Option.bind_some, pe, Bool.false_and]
   rcases g2 with g2 | g2
   ·rw [g2]; rfl
   ·rw [g2]; cases (e == 0) <;> cases (m == (s.size : Int)) <;> rfl
end Go.Ev.Pl
end
section
set_option linter.unusedVariables false
namespace Go.Ev.Pl
def ca {α B : Type} (g : Nat → α → Option B) (l : List α) : Option B := db (fun i => (l[i]?).bind (g i)) 0 l.length
theorem gv {B R : Type} (c : Bool) (b : B) (r : Option B) (x : R) (f : B → R) : (cond c (some b) r).elim x f = cond c (f b) (r.elim x f) := by cases c <;> rfl
theorem j9 {B R : Type} (x : R) (f : B → R) : (none : Option B).elim x f = x := rfl
theorem bf {i n : Nat} (h : i < n) : decide ((i : Int) < (n : Int)) = true := decide_eq_true (by omega)
theorem aE (n : Nat) : decide ((n : Int) < (n : Int)) = false := decide_eq_false (by omega)
theorem aN {α : Type} {l : List α} {i : Nat} {x : α} (h : l[i]? = some x) : i < l.length := (List.getElem?_eq_some_iff.1 h).1
theorem dn {α : Type} {l : List α} {i : Nat} {x : α} (h : l[i]? = some x) : x ∈ l := List.mem_of_getElem? h
theorem fH {α : Type} {l : List α} {i : Nat} {x : α} (h : l[i]? = some x) : nth l i = some x := h
theorem jv (i : Nat) : decide (0 ≤ (i : Int)) = true := decide_eq_true (by omega)
theorem sQ {i n : Nat} (h : i ≤ n) : decide ((i : Int) ≤ (n : Int)) = true := decide_eq_true (by omega)
theorem tK {i n : Nat} (h : i ≤ n) : decide (i ≤ n) = true := decide_eq_true h
theorem xL : decide ((0 : Int) ≤ 0) = true := rfl
theorem ya (n : Nat) : decide (0 ≤ n) = true := decide_eq_true (by omega)
theorem bZ {α A B : Type} {F : Nat → Int → Option (Sum A B)} (l : List α) (a : A) (g : Nat → α → Option B) (fuel : Nat)
  (h0 : ∀ n, F (n + 1) (l.length : Int) = some (.inl a))
  (h1 : ∀ n (i : Nat) x, l[i]? = some x → (∀ j y, j < i → l[j]? = some y → g j y = none) → F (n + 1) (i : Int) = (g i x).elim (F n ((i + 1 : Nat) : Int)) (fun b => some (.inr b)))
  (hf : l.length < fuel) : F fuel 0 = some ((ca g l).elim (.inl a) .inr) := by
 suffices H : ∀ c i fuel, l.length - i = c → i ≤ l.length → l.length - i < fuel → (∀ j y, j < i → l[j]? = some y → g j y = none) → F fuel (i : Int) = some ((db (fun i => (l[i]?).bind (g i)) i c).elim (.inl a) .inr) from
  H _ 0 fuel rfl (by omega) (by omega) (fun j y h => by omega)
 intro c
 induction c with
 | zero =>
  intro i fuel hc hi hf hp
  obtain rfl : i = l.length := by omega
  cases fuel with
  | zero => omega
  | succ n => rw [h0]; rfl
 | succ c ih =>
  intro i fuel hc hi hf hp
  cases fuel with
  | zero => omega
  | succ n =>
   have hlt : i < l.length := by omega
   have hx : l[i]? = some l[i] := List.getElem?_eq_getElem hlt
   rw [h1 n i _ hx hp, db]
   simp only [hx, Option.bind_some]
   cases hg : g i l[i] with
   | some b => rfl
   | none =>
    exact ih (i + 1) n (by omega) (by omega) (by omega) fun j y h1 h2 => by
     by_cases e : j = i
     ·subst e; rw [hx] at h2; cases h2; exact hg
     ·exact hp j y (by omega) h2
theorem gp {α B : Type} {g : Nat → α → Option B} {l : List α} : ca g l = none ↔ ∀ j y, l[j]? = some y → g j y = none := by
 rw [ca, mn]
 constructor
 ·intro h j y hy
  have := h j (by omega) (by have := aN hy; omega)
  rw [hy] at this; exact this
 ·intro h j _ h2
  cases hy : l[j]? with
  | none => rfl
  | some y => exact h j y hy
theorem bH {α B : Type} (p : α → Bool) (b : B) (l : List α) : ca (fun _ x => cond (p x) (some b) none) l = cond (l.any p) (some b) none :=
 ti p b l _ fun j x hx => by simp [hx]
theorem nf {α A B : Type} {F : Nat → Int → Option (Sum A B)} (l : List α) (N : Nat) (a : A) (b : B) (p : α → Bool) (fuel : Nat) (hN : N ≤ l.length)
  (h0 : ∀ n, F (n + 1) (N : Int) = some (.inl a))
  (h1 : ∀ n (i : Nat) x, i < N → l[i]? = some x → F (n + 1) (i : Int) = cond (p x) (some (.inr b)) (F n ((i + 1 : Nat) : Int)))
  (hf : N < fuel) : F fuel 0 = some (cond ((l.take N).any p) (.inr b) (.inl a)) := by
 have hl : (l.take N).length = N := by simp; omega
 have := bZ (F := F) (l.take N) a (fun _ x => cond (p x) (some b) none) fuel (fun n => by rw [hl]; exact h0 n) (fun n i x hx _ => by
  have h2 := aN hx
  rw [h1 n i x (by omega) (by rw [List.getElem?_take_of_lt (by omega)] at hx; exact hx)]
  cases p x <;> rfl) (by omega)
 rw [this, bH]
 cases (l.take N).any p <;> rfl
def BA (a : bT) : Prop := a.name.size ≤ 40 ∧ a.names.length ≤ 25 ∧ ∀ s ∈ a.names, s.size ≤ 40
structure BT (t : a8) : Prop where
 n : t.nodes.length ≤ 20
 e : t.edges.length ≤ 30
 nn : ∀ x ∈ t.nodes, x.name.size ≤ 40
 na : ∀ x ∈ t.nodes, x.attrs.length ≤ 30
 aa : ∀ x ∈ t.nodes, ∀ a ∈ x.attrs, BA a
 en : ∀ x ∈ t.edges, x.name.size ≤ 40
def lm (o : Option (Int × Unit)) : Int := match o with | some z => z.1 | none => 0
theorem sV {α : Type} (l : List α) (n : Nat) : slc l 0 n = l.take n := by simp [slc]
theorem cI {n m : Nat} (h : n ≤ m) (hm : m ≤ 4611686018427387903) : Sm n := by unfold Sm; omega
theorem uj {i n : Nat} (h : i ≤ n) : (decide (0 ≤ (0 : Int)) && decide ((0 : Int) ≤ (i : Int)) && decide ((i : Int) ≤ (n : Int))) = true := by simp; omega
theorem kj (o : Option (Int × Unit)) : ((some (o.elim (Sum.inl ()) Sum.inr)).bind fun o => aF o (fun _ => some ((0 : Int), ())) (fun z => some (z.1, ()))) = some (lm o, ()) := by cases o <;> rfl
theorem sK (x y : ByteArray) : cT x y = cT y x := by simp only [cT]; exact decide_eq_decide.2 eq_comm
def ie (l : List ByteArray) : Int := cond (decide ((l.length : Int) > 20)) 3 (lm (ca (fun i x => cond (!iL x) (some (2, ())) (cond ((l.take i).any (cT x)) (some (5, ())) none)) l))
theorem ut {k : Nat} {l : List ByteArray} (hl : l.length ≤ 25) (hs : ∀ s ∈ l, s.size ≤ 40) (hk : 100 < k) : types_names k l = some (ie l, ()) := by
 rw [types_names, ie]
 cases decide ((l.length : Int) > 20) with
 | true => rfl
 | false =>
  rw [cond_false, cond_false, bZ (F := types_names.l0 k l l (l.length : Int)) l () (fun i x => cond (!iL x) (some (2, ())) (cond ((l.take i).any (cT x)) (some (5, ())) none)) _ (fun n => ?_) (fun n i x hx _ => ?_) (by omega)]
  ·exact kj _
  ·simp only [types_names.l0, aE, cond_false]
  ·have h := aN hx
   have h3 := hs x (dn hx)
   simp only [types_names.l0, bf h, cond_true, idx_some hx, Option.bind_some, xa (s := x) (cI h3 (by omega)) (show x.size < k by omega), uj (Nat.le_of_lt h), Int.toNat_natCast, sV,
    nk _ (show Sm (l.take i).length from cI (m := 25) (by simp; omega) (by omega)), gv, j9, wS (show i < 4611686018427387904 by omega)]
theorem sU {k : Nat} {l : List ByteArray} (hl : l.length ≤ 25) (hs : ∀ s ∈ l, s.size ≤ 40) (hk : 100 < k) : scarfjointref04_names k l = some (ie l, ()) := by
 rw [scarfjointref04_names, ie]
 cases decide ((l.length : Int) > 20) with
 | true => rfl
 | false =>
  rw [cond_false, cond_false, bZ (F := fun n i => scarfjointref04_names.l0 k n l i) l () (fun i x => cond (!iL x) (some (2, ())) (cond ((l.take i).any (cT x)) (some (5, ())) none)) _ (fun n => ?_) (fun n i x hx _ => ?_) (by omega)]
  ·exact kj _
  ·simp only [scarfjointref04_names.l0, aE, cond_false]
  ·have h := aN hx
   have h3 := hs x (dn hx)
   simp only [scarfjointref04_names.l0, bf h, cond_true, idx_some hx, Option.bind_some, xv (s := x) (cI h3 (by omega)) (show x.size < k by omega) (by omega)]
   rw [nf (F := scarfjointref04_names.l2 l i) l i (l, (i : Int), ()) (5, ()) (cT x) k (by omega) (fun n => by simp only [scarfjointref04_names.l2, aE, cond_false]) (fun n j y hj hy => by
    simp only [scarfjointref04_names.l2, bf hj, cond_true, idx_some hy, idx_some hx, Option.bind_some, sK y x, wS (show j < 4611686018427387904 by omega)]) (by omega)]
   simp only [Option.bind_some]
   cases iL x <;> cases (l.take i).any (cT x) <;> simp only [Bool.not_true, Bool.not_false, cond_true, cond_false, aF, Option.elim, wS (show i < 4611686018427387904 by omega)]
def kB (a : bT) : Int :=
 cond (ie a.names != 0) (ie a.names)
  (cond (decide ((a.names.length : Int) > 0)) (cond (!(a.low == 0 && a.high == IntKind.i64.wrap ((a.names.length : Int) - 1))) 6 0)
   (cond (!(decide (-1000000 ≤ a.low) && (decide (a.low ≤ a.high) && decide (a.high ≤ 1000000)))) 6 0))
def gx (prev : List bT) (a : bT) : Int :=
 cond (!iL a.name) 2 (cond (prev.any fun y => cT y.name a.name) 5 (kB a))
theorem oI {k : Nat} {a : bT} {l : List bT} (ha : BA a) (hl : Sm l.length) (hk : 100 < k) : dz k a l = some (gx l a, ()) := by
 obtain ⟨h1, h2, h3⟩ := ha
 simp only [dz, gx, kB, xa (s := a.name) (cI h1 (by omega)) (show a.name.size < k by omega), Option.bind_some, uY, dC, bu (l := l) (q := fun z2 => some (cT z2.1.name a.name)) (p := fun y => cT y.name a.name) (fun _ _ => rfl) hl,
  ut h2 h3 hk, eE, jP, gT]
theorem n5 {k : Nat} {a : bT} (ha : BA a) (hk : 100 < k) : bw k a = some (kB a, ()) := by
 obtain ⟨h1, h2, h3⟩ := ha
 simp only [bw, ag, kB, sU h2 h3 hk, Option.bind_some, eE, jP, gT]
 by_cases h : a.names = []
 ·have e1 : ie a.names = 0 := by rw [h]; rfl
  rw [e1]
  have e2 : (!(decide (a.low ≥ -1000000) && decide (a.low ≤ 1000000)) || !(decide (a.high ≥ a.low) && decide (a.high ≤ 1000000))) = !(decide (-1000000 ≤ a.low) && (decide (a.low ≤ a.high) && decide (a.high ≤ 1000000))) := by
   rw [Bool.eq_iff_iff]; simp; omega
  rw [h, e2]
  rfl
 ·have h4 : a.names.length ≠ 0 := by simpa using h
  have e1 : ((a.names.length : Int) == 0) = false := by simp; omega
  have e2 : decide ((a.names.length : Int) > 0) = true := decide_eq_true (by omega)
  rw [e1, e2]
  simp only [cond_false, cond_true, bne, Bool.not_and]
def eV : Nat → a8 → Int → List bT
 | 0, _, _ => []
 | n + 1, t, a => cond (decide (a < 0)) [] (match aB t.nodes a with | some x => eV n t x.parent ++ x.attrs | none => [])
theorem qJ {α : Type} {l : List α} {a : Int} {x : α} (h : aB l a = some x) : x ∈ l := by
 simp only [aB] at h
 cases hd : decide (0 ≤ a) with
 | false => rw [hd] at h; cases h
 | true => rw [hd, cond_true, nth] at h; exact List.mem_of_getElem? h
theorem iX {t : a8} (ht : BT t) : ∀ n a, (eV n t a).length ≤ 30 * n
 | 0, a => by simp [eV]
 | n + 1, a => by
  rw [eV]
  cases decide (a < 0) with
  | true => simp
  | false =>
   rw [cond_false]
   cases h : aB t.nodes a with
   | none => simp
   | some x =>
    have := iX ht n x.parent
    have := ht.na x (qJ h)
    simp; omega
theorem k6 {t : a8} (ht : BT t) : ∀ n a, ∀ y ∈ eV n t a, BA y
 | 0, a => by simp [eV]
 | n + 1, a => by
  rw [eV]
  cases decide (a < 0) with
  | true => simp
  | false =>
   rw [cond_false]
   cases h : aB t.nodes a with
   | none => simp
   | some x =>
    intro y hy
    rcases List.mem_append.1 hy with h1 | h1
    ·exact k6 ht n _ y h1
    ·exact ht.aa x (qJ h) y h1
theorem bO {n : Nat} (h : n ≤ 1000000) : cP n = true := by simp only [cP, wB]; exact Nat.ble_eq_true_of_le (by omega)
theorem mm {t : a8} (ht : BT t) : ∀ (m k n i : Nat), i < m → m < k → m < n → n ≤ 32 → i < t.nodes.length → (∀ j x, j ≤ i → t.nodes[j]? = some x → x.parent < j) →
  cL k t i = some (eV n t i, ()) ∧ ax k t i = some (eV n t i, ())
 | 0, k, n, i, h, _, _, _, _, _ => by omega
 | m + 1, k + 1, n + 1, i, h, hk, hn, hn2, hi, hp => by
  obtain ⟨x, hx⟩ : ∃ x, t.nodes[i]? = some x := ⟨_, List.getElem?_eq_getElem hi⟩
  have hpx := hp i x (Nat.le_refl _) hx
  have h0 : ¬ ((i : Int) < 0) := by omega
  have ha := ht.na x (dn hx)
  rw [cL, ax, eV]
  simp only [idx_some hx, Option.bind_some, h0, decide_false, cond_false]
  by_cases hn0 : x.parent ≥ 0
  ·obtain ⟨p, hp1⟩ : ∃ p : Nat, x.parent = p := ⟨x.parent.toNat, by omega⟩
   rw [hp1] at hpx ⊢
   obtain ⟨r1, r2⟩ := mm ht m k n p (by omega) (by omega) (by omega) (by omega) (by omega) (fun j y hj hy => hp j y (by omega) hy)
   have hl := iX ht n (p : Int)
   have hge : ((p : Nat) : Int) ≥ 0 := by omega
   rw [r1, r2]
   simp only [hge, decide_true, cond_true, Option.bind_some, List.nil_append, List.length_nil, Nat.zero_add, bO (show (eV n t (p : Int)).length ≤ 1000000 by omega), bO (show (eV n t (p : Int)).length + x.attrs.length ≤ 1000000 by omega), and_self]
  ·obtain ⟨n, rfl⟩ : ∃ n', n = n' + 1 := ⟨n - 1, by omega⟩
   obtain ⟨k, rfl⟩ : ∃ k', k = k' + 1 := ⟨k - 1, by omega⟩
   have hlt : x.parent < 0 := by omega
   simp only [hn0, decide_false, cond_false, eV, ax, hlt, decide_true, cond_true, Option.bind_some, List.nil_append, List.length_nil, Nat.zero_add, bO (show 0 ≤ 1000000 by omega), bO (show x.attrs.length ≤ 1000000 by omega), and_self]
 | m + 1, 0, n, i, h, hk, _, _, _, _ => by omega
 | m + 1, k + 1, 0, i, h, hk, hn, _, _, _ => by omega
end Go.Ev.Pl
end
section
set_option linter.unusedVariables false
namespace Go.Ev.Pl
def be (t : a8) (i : Int) : List bT := eV 32 t i
def dt (t : a8) (i : Nat) (x : aY) : Int :=
 cond (!iL x.name) 2 (cond ((t.nodes.take i).any fun y => cT y.name x.name) 5 (cond (decide (x.parent < -1) || decide (x.parent ≥ (i : Int))) 6
  (cond (decide ((x.attrs.length : Int) > 4)) 3 (cond (decide (((be t i).length : Int) > 8)) 3
   (lm (db (fun j => ((be t i)[j]?).bind fun a => cond (gx ((be t i).take j) a != 0) (some (gx ((be t i).take j) a, ())) none) ((be t i).length - x.attrs.length) ((be t i).length - ((be t i).length - x.attrs.length))))))))
theorem pH {t : a8} {i : Nat} {x : aY} (h : t.nodes[i]? = some x) : be t i = eV 31 t x.parent ++ x.attrs := by
 have h0 : ¬ ((i : Int) < 0) := by omega
 simp only [be, eV, h0, decide_false, cond_false, idx_some h]
theorem xU {a b : Nat} (h : b ≤ a) (ha : a ≤ 1000000) : IntKind.i64.wrap ((a : Int) - (b : Int)) = ((a - b : Nat) : Int) := by
 rw [jh (by omega) (by omega)]; omega
def yi (t : a8) (i : Nat) : Prop := ∀ j x, j ≤ i → t.nodes[j]? = some x → x.parent < j
theorem s5 {k : Nat} {t : a8} (ht : BT t) (hk : 2000 < k) {i : Nat} {x : aY} (hx : t.nodes[i]? = some x) (hp : ∀ j y, j < i → t.nodes[j]? = some y → y.parent < j) :
    types_node k t i = some (dt t i x, ()) ∧ scarfjointref04_node k t i = some (dt t i x, ()) := by
  have hi := aN hx
  have hn := ht.n
  have hsz := ht.nn x (dn hx)
  have hal := ht.na x (dn hx)
  have e5 := (bu (l := t.nodes.take i) (q := fun z3 => fU z3.1 x) (p := fun y => cT y.name x.name) (fun _ _ => rfl) (cI (m := 20) (by simp; omega) (by omega)))
  have e6 := nf (F := scarfjointref04_node.l0 i t x) t.nodes i ((i : Int), t, x, ()) (5, ()) (fun y => cT y.name x.name) k (by omega) (fun n => by simp only [scarfjointref04_node.l0, aE, cond_false]) (fun n j y hj hy => by
        simp only [scarfjointref04_node.l0, bf hj, cond_true, idx_some hy, Option.bind_some, wS (show j < 4611686018427387904 by omega)]) (by omega)
  have e7 : IntKind.i64.wrap ((i : Int) - 1) = (i : Int) - 1 := jh (by omega) (by omega)
  have e8 : (!(decide (x.parent ≥ -1) && decide (x.parent ≤ (i : Int) - 1))) = (decide (x.parent < -1) || decide (x.parent ≥ (i : Int))) := by
    rw [Bool.eq_iff_iff]; simp; omega
  simp only [types_node, scarfjointref04_node, dt, ag, idx_some hx, Option.bind_some, xa (s := x.name) (cI hsz (by omega)) (show x.name.size < k by omega), xv (s := x.name) (cI hsz (by omega)) (show x.name.size < k by omega) (by omega),
    uj (Nat.le_of_lt hi), Int.toNat_natCast, sV, wh, e5, e6, cond_true, eE, jP, gT]
  cases iL x.name with
  | false => exact ⟨rfl, rfl⟩
  | true =>
    simp only [Bool.not_true, cond_false]
    cases ((t.nodes.take i).any fun y => cT y.name x.name) with
    | true => exact ⟨rfl, rfl⟩
    | false =>
      simp only [cond_false, aF, e7, e8]
      cases hq : (decide (x.parent < -1) || decide (x.parent ≥ (i : Int))) with
      | true => exact ⟨rfl, rfl⟩
      | false =>
        have hq' : x.parent < i := by simp at hq; omega
        have hpar : yi t i := fun j y hj hy => by
          by_cases e : j = i
          · subst e; rw [hx] at hy; cases hy; exact hq'
          · exact hp j y (by omega) hy
        obtain ⟨a1, a2⟩ := mm ht 31 k 32 i (by omega) (by omega) (by omega) (by omega) hi hpar
        have hall := iX ht 32 i
        have hmem := k6 ht 32 i
        have hown := pH hx
        rw [show eV 32 t i = be t i from rfl] at a1 a2 hall hmem
        have hge : x.attrs.length ≤ (be t i).length := by rw [hown]; simp
        generalize be t i = all at *
        simp only [cond_false, a1, a2, Option.bind_some]
        cases decide ((x.attrs.length : Int) > 4) with
        | true => exact ⟨rfl, rfl⟩
        | false =>
          simp only [cond_false, Bool.false_or]
          cases decide ((all.length : Int) > 8) with
          | true => exact ⟨rfl, rfl⟩
          | false =>
            simp only [cond_false, xU hge (by omega)]
            constructor
            · rw [lT (F := types_node.l1 k all) all.length () (fun j => (all[j]?).bind fun a => cond (gx (all.take j) a != 0) (some (gx (all.take j) a, ())) none) (all.length - x.attrs.length) (fun n j hj => ?_) (fun n j h1 h2 _ => ?_) k (by omega)]
              · exact kj _
              · have : ¬ ((j : Int) < all.length) := by omega
                simp [types_node.l1, this]
              · have hy := List.getElem?_eq_getElem h2
                simp only [types_node.l1, bf h2, jv, sQ (Nat.le_of_lt h2), tK (Nat.le_of_lt h2), xL, ya, Bool.and_true, cond_true, fH hy, hy, Option.bind_some, Int.toNat_natCast, sV,
                  oI (k := k) (a := all[j]) (l := all.take j) (hmem _ (List.getElem_mem h2)) (cI (m := 1000) (by simp; omega) (by omega)) (by omega), wS (show j < 4611686018427387904 by omega)]
                cases (gx (all.take j) all[j] != 0) <;> rfl
            · rw [lT (F := fun n j => scarfjointref04_node.l2 k n all j) all.length () (fun j => (all[j]?).bind fun a => cond (gx (all.take j) a != 0) (some (gx (all.take j) a, ())) none) (all.length - x.attrs.length) (fun n j hj => ?_) (fun n j h1 h2 _ => ?_) k (by omega)]
              · exact kj _
              · have : ¬ ((j : Int) < all.length) := by omega
                simp [scarfjointref04_node.l2, this]
              · have hy := List.getElem?_eq_getElem h2
                have hb := hmem _ (List.getElem_mem h2)
                simp only [scarfjointref04_node.l2, bf h2, jv, Bool.and_true, cond_true, Int.toNat_natCast, fH hy, hy, Option.bind_some, xv (s := all[j].name) (cI hb.1 (by omega)) (show all[j].name.size < k by have := hb.1; omega) (by omega)]
                rw [nf (F := scarfjointref04_node.l4 all j) all j (all, (j : Int), ()) (5, ()) (fun y => cT y.name all[j].name) k (by omega) (fun n => by simp only [scarfjointref04_node.l4, aE, cond_false]) (fun n j' y hj hy' => by
                  simp only [scarfjointref04_node.l4, bf hj, cond_true, Int.toNat_natCast, fH hy', fH hy, bf h2, bf (aN hy'), jv, Bool.and_true, Option.bind_some, wS (show j' < 4611686018427387904 by omega)]) (by omega)]
                simp only [Option.bind_some, gx]
                cases iL all[j].name with
                | false => rfl
                | true =>
                  cases (all.take j).any (fun y => cT y.name all[j].name) with
                  | true => rfl
                  | false =>
                    simp only [Bool.not_true, cond_false, aF, bf h2, jv, Bool.and_true, Int.toNat_natCast, fH hy, Option.bind_some, cond_true, n5 hb (show 100 < k by omega), wS (show j < 4611686018427387904 by omega)]
                    cases (kB all[j] != 0) <;> rfl
def lP (a b : Int) : Bool := decide (a ≥ 0) && (decide (a ≤ 40) && (b == -1 || (decide (b ≥ a) && decide (b ≤ 40))))
theorem qO (a b : Int) : dL a b = some (lP a b, ()) := by
 simp only [dL, lP, eE, jP, gT, Option.bind_some]
theorem qh (a b : Int) : bC a b = some (lP a b, ()) := by
 simp only [bC, ag, lP, eE, jP, gT, Option.bind_some, Bool.and_assoc]
def ez (t : a8) (i : Nat) (x : bl) : Int :=
 cond (!iL x.name) 2 (cond ((t.edges.take i).any fun y => cT y.name x.name) 5
  (cond (!(decide (x.frm ≥ 0) && decide (x.frm < (t.nodes.length : Int))) || !(decide (x.to ≥ 0) && decide (x.to < (t.nodes.length : Int)))) 6
   (cond (!lP x.outLow x.outHigh || !lP x.inLow x.inHigh) 6 0)))
theorem rG {k : Nat} {t : a8} (ht : BT t) (hk : 2000 < k) {i : Nat} {x : bl} (hx : t.edges[i]? = some x) :
    gu k t i = some (ez t i x, ()) ∧ scarfjointref04_edge k t i = some (ez t i x, ()) := by
  have hi := aN hx
  have hn := ht.e
  have hn' := ht.n
  have hsz := ht.en x (dn hx)
  have e5 := (bu (l := t.edges.take i) (q := fun z3 => fM z3.1 x) (p := fun y => cT y.name x.name) (fun _ _ => rfl) (cI (m := 30) (by simp; omega) (by omega)))
  have e6 := nf (F := scarfjointref04_edge.l0 i t x) t.edges i (t, x, ()) (5, ()) (fun y => cT y.name x.name) k (by omega) (fun n => by simp only [scarfjointref04_edge.l0, aE, cond_false]) (fun n j y hj hy => by
        simp only [scarfjointref04_edge.l0, bf hj, cond_true, idx_some hy, Option.bind_some, wS (show j < 4611686018427387904 by omega)]) (by omega)
  have e7 : IntKind.i64.wrap ((t.nodes.length : Int) - 1) = (t.nodes.length : Int) - 1 := jh (by omega) (by omega)
  have e8 : ∀ z : Int, decide (z ≤ (t.nodes.length : Int) - 1) = decide (z < (t.nodes.length : Int)) := fun z => decide_eq_decide.2 (by omega)
  simp only [gu, f8, scarfjointref04_edge, ez, ag, idx_some hx, Option.bind_some, xa (s := x.name) (cI hsz (by omega)) (show x.name.size < k by omega), xv (s := x.name) (cI hsz (by omega)) (show x.name.size < k by omega) (by omega),
    uj (Nat.le_of_lt hi), Int.toNat_natCast, sV, xn, e5, e6, cond_true, eE, jP, gT, qO, qh]
  cases iL x.name with
  | false => exact ⟨rfl, rfl⟩
  | true =>
    simp only [Bool.not_true, cond_false]
    cases ((t.edges.take i).any fun y => cT y.name x.name) with
    | true => exact ⟨rfl, rfl⟩
    | false =>
      simp only [cond_false, aF, e7, e8]
      cases (decide (x.frm ≥ 0) && decide (x.frm < (t.nodes.length : Int))) <;> cases (decide (x.to ≥ 0) && decide (x.to < (t.nodes.length : Int))) <;> cases (lP x.outLow x.outHigh) <;> cases (lP x.inLow x.inHigh) <;> exact ⟨rfl, rfl⟩
def xu (o : Option (ByteArray × (Int × Unit))) : ByteArray × Int := match o with | some z => (z.1, z.2.1) | none => (⟨#[]⟩, 0)
def xh (t : a8) : ByteArray × Int :=
  cond ((t.nodes.length : Int) == 0) (⟨#[]⟩, 7) (cond (decide ((t.nodes.length : Int) > 12) || decide ((t.edges.length : Int) > 20)) (⟨#[]⟩, 3)
    (match ca (fun i x => cond (dt t i x != 0) (some (x.name, dt t i x, ())) none) t.nodes with
     | some z => (z.1, z.2.1)
     | none => xu (ca (fun i x => cond (ez t i x != 0) (some (x.name, ez t i x, ())) none) t.edges)))
def ji (t : a8) : Int := (xh t).2
theorem cX {B R : Type} (c : Bool) (b : B) (x : R) (f : B → R) : (cond c (some b) none).elim x f = cond c (f b) x := by cases c <;> rfl
theorem lJ {t : a8} {i : Nat} {x : aY} (h : dt t i x = 0) : -1 ≤ x.parent ∧ x.parent < i := by
 simp only [dt] at h
 cases hq : (decide (x.parent < -1) || decide (x.parent ≥ (i : Int))) with
 | true => rw [hq] at h; revert h; cases iL x.name <;> cases ((t.nodes.take i).any fun y => cT y.name x.name) <;> simp
 | false => simp at hq; omega
theorem xG {c : Int} {B : Type} {b : B} (h : cond (c != 0) (some b) none = none) : c = 0 := by
 cases hc : (c != 0) with
 | true => rw [hc] at h; cases h
 | false => simpa using hc
theorem gC {k : Nat} {t : a8} (ht : BT t) (hk : 2000 < k) : types_Valid k t = some ((xh t).1, ji t, ()) ∧ scarfjointref04_Valid k t = some ((xh t).1, ji t, ()) := by
 have hn := ht.n
 have hn' := ht.e
 have p1 : ∀ (i : Nat), (∀ j y, j < i → t.nodes[j]? = some y → (cond (dt t j y != 0) (some (y.name, dt t j y, ())) none : Option (ByteArray × (Int × Unit))) = none) → ∀ j y, j < i → t.nodes[j]? = some y → y.parent < j :=
  fun i h j y hj hy => (lJ (xG (h j y hj hy))).2
 have l1 := bZ (F := types_Valid.l1 k t t.nodes t.nodes.length) t.nodes (t, ()) (fun i x => cond (dt t i x != 0) (some (x.name, dt t i x, ())) none) (Int.toNat (t.nodes.length : Int) + 1) (fun n => by simp only [types_Valid.l1, aE, cond_false]) (fun n i x hx hp => by
  simp only [types_Valid.l1, bf (aN hx), cond_true, idx_some hx, Option.bind_some, (s5 ht hk hx (p1 i hp)).1, cX, wS (show i < 4611686018427387904 by have := aN hx; omega)]) (by omega)
 have l2 := bZ (F := types_Valid.l3 k t t.edges t.edges.length) t.edges () (fun i x => cond (ez t i x != 0) (some (x.name, ez t i x, ())) none) (Int.toNat (t.edges.length : Int) + 1) (fun n => by simp only [types_Valid.l3, aE, cond_false]) (fun n i x hx hp => by
  simp only [types_Valid.l3, bf (aN hx), cond_true, idx_some hx, Option.bind_some, (rG ht hk hx).1, cX, wS (show i < 4611686018427387904 by have := aN hx; omega)]) (by omega)
 have l3 := bZ (F := scarfjointref04_Valid.l0 k t) t.nodes (t, ()) (fun i x => cond (dt t i x != 0) (some (x.name, dt t i x, ())) none) k (fun n => by simp only [scarfjointref04_Valid.l0, aE, cond_false]) (fun n i x hx hp => by
  simp only [scarfjointref04_Valid.l0, bf (aN hx), cond_true, idx_some hx, Option.bind_some, (s5 ht hk hx (p1 i hp)).2, cX, wS (show i < 4611686018427387904 by have := aN hx; omega)]) (by omega)
 have l4 := bZ (F := scarfjointref04_Valid.l2 k t) t.edges () (fun i x => cond (ez t i x != 0) (some (x.name, ez t i x, ())) none) k (fun n => by simp only [scarfjointref04_Valid.l2, aE, cond_false]) (fun n i x hx hp => by
  simp only [scarfjointref04_Valid.l2, bf (aN hx), cond_true, idx_some hx, Option.bind_some, (rG ht hk hx).2, cX, wS (show i < 4611686018427387904 by have := aN hx; omega)]) (by omega)
 simp only [types_Valid, scarfjointref04_Valid, ji, xh, l1, l3, eE, gT, Option.bind_some]
 cases ((t.nodes.length : Int) == 0) with
 | true => exact ⟨rfl, rfl⟩
 | false =>
  cases (decide ((t.nodes.length : Int) > 12) || decide ((t.edges.length : Int) > 20)) with
  | true => exact ⟨rfl, rfl⟩
  | false =>
   simp only [cond_false]
   cases ca (fun i x => cond (dt t i x != 0) (some (x.name, dt t i x, ())) none) t.nodes with
   | some z => exact ⟨rfl, rfl⟩
   | none =>
    simp only [Option.elim, aF, l2, l4, Option.bind_some]
    cases ca (fun i x => cond (ez t i x != 0) (some (x.name, ez t i x, ())) none) t.edges <;> exact ⟨rfl, rfl⟩
structure t6 (t : a8) : Prop where
 b : BT t
 pos : 0 < t.nodes.length
 n : t.nodes.length ≤ 12
 e : t.edges.length ≤ 20
 par : ∀ (i : Nat) x, t.nodes[i]? = some x → -1 ≤ x.parent ∧ x.parent < i
 edge : ∀ (i : Nat) x, t.edges[i]? = some x → 0 ≤ x.frm ∧ x.frm < t.nodes.length ∧ 0 ≤ x.to ∧ x.to < t.nodes.length
theorem ka {t : a8} (ht : BT t) (h : ji t = 0) : t6 t := by
 simp only [ji, xh] at h
 cases h1 : ((t.nodes.length : Int) == 0) with
 | true => rw [h1] at h; cases h
 | false =>
  cases h2 : (decide ((t.nodes.length : Int) > 12) || decide ((t.edges.length : Int) > 20)) with
  | true => rw [h1, h2] at h; cases h
  | false =>
   rw [h1, h2] at h
   simp only [cond_false] at h
   cases h3 : ca (fun i x => cond (dt t i x != 0) (some (x.name, dt t i x, ())) none) t.nodes with
   | some z =>
    rw [h3] at h
    obtain ⟨j, _, _, j3, _⟩ := dN h3
    obtain ⟨x, _, j5⟩ := Option.bind_eq_some_iff.1 j3
    dsimp only at j5
    cases hc : (dt t j x != 0) with
    | false => rw [hc] at j5; cases j5
    | true => rw [hc] at j5; cases j5; dsimp only at h; simp only [bne, h] at hc; cases hc
   | none =>
    rw [h3] at h
    cases h4 : ca (fun i x => cond (ez t i x != 0) (some (x.name, ez t i x, ())) none) t.edges with
    | some z =>
     rw [h4] at h
     obtain ⟨j, _, _, j3, _⟩ := dN h4
     obtain ⟨x, _, j5⟩ := Option.bind_eq_some_iff.1 j3
     dsimp only at j5
     cases hc : (ez t j x != 0) with
     | false => rw [hc] at j5; cases j5
     | true => rw [hc] at j5; cases j5; simp only [xu] at h; simp only [bne, h] at hc; cases hc
    | none =>
     simp at h1 h2
     refine ⟨ht, by have := List.length_pos_iff.2 h1; omega, by omega, by omega, fun i x hx => lJ (xG (gp.1 h3 i x hx)), fun i x hx => ?_⟩
     have := xG (gp.1 h4 i x hx)
     simp only [ez] at this
     cases h5 : (!(decide (x.frm ≥ 0) && decide (x.frm < (t.nodes.length : Int))) || !(decide (x.to ≥ 0) && decide (x.to < (t.nodes.length : Int)))) with
     | true => rw [h5] at this; revert this; cases iL x.name <;> cases ((t.edges.take i).any fun y => cT y.name x.name) <;> simp
     | false => simp at h5; omega
end Go.Ev.Pl
end
section
set_option linter.unusedVariables false
namespace Go.Ev.Pl
theorem eR {β : Type} {f : Nat → List β} {c : Nat} (h : ∀ j, (f j).length ≤ c) : ∀ i, ((List.range i).flatMap f).length ≤ c * i
 | 0 => by simp
 | i + 1 => by
  have := eR h i
  have := h i
  rw [List.range_succ, List.flatMap_append, List.length_append, Nat.mul_succ, show List.flatMap f [i] = f i by simp]
  omega
theorem jF {β R : Type} {F : Nat → List β → Int → Option R} (N : Nat) (f : Nat → List β) (out : List β → Option R) (acc0 : List β) (fuel : Nat)
  (h0 : ∀ n acc, F (n + 1) acc (N : Int) = out acc)
  (h1 : ∀ n acc (i : Nat), i < N → acc = acc0 ++ (List.range i).flatMap f → F (n + 1) acc (i : Int) = F n (acc ++ f i) ((i + 1 : Nat) : Int))
  (hf : N < fuel) : F fuel acc0 0 = out (acc0 ++ (List.range N).flatMap f) := by
 suffices H : ∀ c i fuel, N - i = c → i ≤ N → N - i < fuel → F fuel (acc0 ++ (List.range i).flatMap f) (i : Int) = out (acc0 ++ (List.range N).flatMap f) by
  have := H _ 0 fuel rfl (by omega) (by omega)
  simpa using this
 intro c
 induction c with
 | zero =>
  intro i fuel hc hi hf
  obtain rfl : i = N := by omega
  cases fuel with
  | zero => omega
  | succ n => rw [h0]
 | succ c ih =>
  intro i fuel hc hi hf
  cases fuel with
  | zero => omega
  | succ n =>
   rw [h1 n _ i (by omega) rfl, ← ih (i + 1) n (by omega) (by omega) (by omega), List.range_succ, List.flatMap_append]
   simp
theorem tJ {α S A B : Type} {F : Nat → S → Int → Option (Sum A B)} (l : List α) (fin : S → A) (g : α → Option B) (st : α → S → S) (ip : Nat → S → Prop) (fuel : Nat) (s : S) (hs : ip 0 s)
  (h0 : ∀ n s, ip l.length s → F (n + 1) s (l.length : Int) = some (.inl (fin s)))
  (h1 : ∀ n s (i : Nat) x, l[i]? = some x → ip i s → F (n + 1) s (i : Int) = (g x).elim (F n (st x s) ((i + 1 : Nat) : Int)) (fun b => some (.inr b)))
  (hI : ∀ s (i : Nat) x, l[i]? = some x → g x = none → ip i s → ip (i + 1) (st x s))
  (hf : l.length < fuel) : F fuel s 0 = some ((ca (fun _ => g) l).elim (.inl (fin (l.foldl (fun s x => st x s) s))) .inr) := by
 suffices H : ∀ c i fuel s, l.length - i = c → i ≤ l.length → l.length - i < fuel → ip i s → F fuel s (i : Int) = some ((db (fun i => (l[i]?).bind g) i c).elim (.inl (fin ((l.drop i).foldl (fun s x => st x s) s))) .inr) by
  have := H _ 0 fuel s rfl (by omega) (by omega) hs
  simpa [ca] using this
 intro c
 induction c with
 | zero =>
  intro i fuel s hc hi hf hs
  obtain rfl : i = l.length := by omega
  cases fuel with
  | zero => omega
  | succ n => rw [h0 n s hs]; simp [db]
 | succ c ih =>
  intro i fuel s hc hi hf hs
  cases fuel with
  | zero => omega
  | succ n =>
   have hlt : i < l.length := by omega
   have hx : l[i]? = some l[i] := List.getElem?_eq_getElem hlt
   rw [h1 n s i _ hx hs, db]
   simp only [hx, Option.bind_some]
   cases hg : g l[i] with
   | some b => rfl
   | none =>
    rw [List.drop_eq_getElem_cons hlt, List.foldl_cons]
    exact ih (i + 1) n _ (by omega) (by omega) (by omega) (hI s i _ hx hg hs)
structure BG (g : ah) : Prop where
 n : g.nodes.length ≤ 150
 e : g.edges.length ≤ 150
def fT (n : Int) : Bool := decide (n ≥ 0) && decide (n ≤ 99)
def gL (m : Int) (e : Edge) : Bool := fT e.typ && (decide (e.frm ≥ 0) && (decide (e.frm < m) && (decide (e.to ≥ 0) && decide (e.to < m))))
def kI (g : ah) : Int :=
 cond (decide ((g.nodes.length : Int) > 40) || decide ((g.edges.length : Int) > 80)) 3 (cond (g.nodes.any fun n => !fT n) 6 (cond (g.edges.any fun e => !gL g.nodes.length e) 6 0))
theorem s3 (n : Int) : bp n = some (fT n, ()) := by simp only [bp, eE, jP, Option.bind_some, fT]
theorem u6 (e : Edge) (m : Int) : bX e m = some (gL m e, ()) := by simp only [bX, s3, eE, jP, Option.bind_some, gL]
theorem nK (a b : Int) : cH a b = some (decide (a ≥ 0) && decide (a ≤ b), ()) := by simp only [cH, eE, jP, Option.bind_some]
theorem uO (e : Edge) {m : Nat} (h : m ≤ 1000) : gm e m = some (gL m e, ()) := by
 have e7 : IntKind.i64.wrap ((m : Int) - 1) = (m : Int) - 1 := jh (by omega) (by omega)
 have e8 : ∀ z : Int, decide (z ≤ (m : Int) - 1) = decide (z < (m : Int)) := fun z => decide_eq_decide.2 (by omega)
 simp only [gm, nK, eE, jP, Option.bind_some, gL, fT, e7, e8, Bool.and_assoc]
theorem qQ {α B : Type} (p : α → Bool) (b : B) (l : List α) : ca (fun _ x => cond (p x) (some b) none) l = cond (l.any p) (some b) none := bH p b l
theorem fx {R B : Type} (c : Bool) (b : B) (a : R) : ((cond c (some b) none).elim (Sum.inl a) Sum.inr : Sum R B) = cond c (.inr b) (.inl a) := by cases c <;> rfl
theorem jS {k : Nat} {g : ah} (hg : BG g) (hk : 200 < k) : cm g = some (kI g, ()) ∧ scarfjointref05_Valid k g = some (kI g, ()) := by
 have hn := hg.n
 have he := hg.e
 have l1 := bZ (F := scarfjointref05_Valid.l0 g) g.nodes (g, ()) (fun _ x => cond (!fT x) (some (6, ())) none) k (fun n => by simp only [scarfjointref05_Valid.l0, aE, cond_false]) (fun n i x hx hp => by
  simp only [scarfjointref05_Valid.l0, bf (aN hx), cond_true, idx_some hx, Option.bind_some, s3, cX, wS (show i < 4611686018427387904 by have := aN hx; omega)]) (by omega)
 have l2 := bZ (F := scarfjointref05_Valid.l2 g) g.edges () (fun _ x => cond (!gL g.nodes.length x) (some (6, ())) none) k (fun n => by simp only [scarfjointref05_Valid.l2, aE, cond_false]) (fun n i x hx hp => by
  simp only [scarfjointref05_Valid.l2, bf (aN hx), cond_true, idx_some hx, Option.bind_some, u6, cX, wS (show i < 4611686018427387904 by have := aN hx; omega)]) (by omega)
 rw [bH (fun x => !fT x)] at l1
 rw [bH (fun x => !gL g.nodes.length x)] at l2
 have c1 := bu (l := g.nodes) (q := fun z2 => eF z2.1) (p := fun n => !fT n) (fun x _ => by simp only [eF, nK, Option.bind_some, fT]) (cI hn (by omega))
 have c2 := bu (l := g.edges) (q := fun z2 => eJ z2.1 g) (p := fun n => !gL g.nodes.length n) (fun x _ => by simp only [eJ, uO x (show g.nodes.length ≤ 1000 by omega), Option.bind_some]) (cI he (by omega))
 refine ⟨by simp only [cm, kI, kq, oS, c1, c2, eE, gT, Option.bind_some], ?_⟩
 simp only [scarfjointref05_Valid, kI, l1, eE, gT, Option.bind_some, fx]
 cases (decide ((g.nodes.length : Int) > 40) || decide ((g.edges.length : Int) > 80)) with
 | true => rfl
 | false =>
  cases (g.nodes.any fun n => !fT n) with
  | true => rfl
  | false =>
   simp only [cond_false, aF, l2, Option.bind_some, fx]
   cases (g.edges.any fun e => !gL g.nodes.length e) <;> rfl
structure xI (g : ah) : Prop where
 n : g.nodes.length ≤ 40
 e : g.edges.length ≤ 80
 node : ∀ x ∈ g.nodes, 0 ≤ x ∧ x ≤ 99
 edge : ∀ x ∈ g.edges, 0 ≤ x.typ ∧ x.typ ≤ 99 ∧ 0 ≤ x.frm ∧ x.frm < g.nodes.length ∧ 0 ≤ x.to ∧ x.to < g.nodes.length
theorem jl {g : ah} (h : kI g = 0) : xI g := by
 simp only [kI] at h
 cases h1 : (decide ((g.nodes.length : Int) > 40) || decide ((g.edges.length : Int) > 80)) with
 | true => rw [h1] at h; cases h
 | false =>
  cases h2 : (g.nodes.any fun n => !fT n) with
  | true => rw [h1, h2] at h; cases h
  | false =>
   cases h3 : (g.edges.any fun e => !gL g.nodes.length e) with
   | true => rw [h1, h2, h3] at h; cases h
   | false =>
    simp at h1
    rw [List.any_eq_false] at h2 h3
    refine ⟨by omega, by omega, fun x hx => ?_, fun x hx => ?_⟩
    ·have := h2 x hx; simp [fT] at this; omega
    ·have := h3 x hx; simp [gL, fT] at this; omega
def qs (t : a8) (g : ah) : Bool := !(g.nodes.any fun n => decide (n ≥ (t.nodes.length : Int))) && !(g.edges.any fun x => decide (x.typ ≥ (t.edges.length : Int)))
theorem l7 {α : Type} {l : List α} {p q : α → Bool} (h : ∀ x ∈ l, p x = q x) : l.any p = l.any q := by
 induction l with
 | nil => rfl
 | cons x l ih => rw [List.any_cons, List.any_cons, h x (by simp), ih fun y hy => h y (by simp [hy])]
theorem uC {t : a8} {g : ah} (hg : BG g) : fZ t g = some (qs t g, ()) := by
 have hn := hg.n
 have he := hg.e
 have c1 := bu (l := g.nodes) (q := fun z2 => fN z2.1 t) (p := fun n => decide (n ≥ (t.nodes.length : Int))) (fun x _ => rfl) (cI hn (by omega))
 have c2 := bu (l := g.edges) (q := fun z2 => fW z2.1 t) (p := fun x => decide (x.typ ≥ (t.edges.length : Int))) (fun x _ => rfl) (cI he (by omega))
 simp only [fZ, kq, oS, c1, c2, Option.bind_some, eE, jP, qs]
theorem nz {k : Nat} {t : a8} {g : ah} (hg : xI g) (hk : 200 < k) : scarfjointref17_Typed k t g = some (qs t g, ()) := by
 have hn := hg.n
 have he := hg.e
 have l1 := bZ (F := scarfjointref17_Typed.l0 t g) g.nodes (t, g, ()) (fun _ x => cond (decide (x < 0) || decide (x ≥ (t.nodes.length : Int))) (some (false, ())) none) k (fun n => by simp only [scarfjointref17_Typed.l0, aE, cond_false]) (fun n i x hx hp => by
  simp only [scarfjointref17_Typed.l0, bf (aN hx), cond_true, idx_some hx, Option.bind_some, eE, gT, cX, wS (show i < 4611686018427387904 by have := aN hx; omega)]) (by omega)
 have l2 := bZ (F := scarfjointref17_Typed.l2 t g) g.edges () (fun _ x => cond (decide (x.typ < 0) || decide (x.typ ≥ (t.edges.length : Int))) (some (false, ())) none) k (fun n => by simp only [scarfjointref17_Typed.l2, aE, cond_false]) (fun n i x hx hp => by
  simp only [scarfjointref17_Typed.l2, bf (aN hx), cond_true, idx_some hx, Option.bind_some, eE, gT, cX, wS (show i < 4611686018427387904 by have := aN hx; omega)]) (by omega)
 rw [bH (fun x => decide (x < 0) || decide (x ≥ (t.nodes.length : Int)))] at l1
 rw [bH (fun x : Edge => decide (x.typ < 0) || decide (x.typ ≥ (t.edges.length : Int)))] at l2
 rw [l7 (q := fun n => decide (n ≥ (t.nodes.length : Int))) (fun x hx => by have := hg.node x hx; rw [Bool.eq_iff_iff]; simp; omega)] at l1
 rw [l7 (q := fun x : Edge => decide (x.typ ≥ (t.edges.length : Int))) (fun x hx => by have := hg.edge x hx; rw [Bool.eq_iff_iff]; simp; omega)] at l2
 simp only [scarfjointref17_Typed, l1, Option.bind_some, fx, qs]
 cases (g.nodes.any fun n => decide (n ≥ (t.nodes.length : Int))) with
 | true => rfl
 | false =>
  simp only [cond_false, aF, l2, Option.bind_some, fx]
  cases (g.edges.any fun x => decide (x.typ ≥ (t.edges.length : Int))) <;> rfl
theorem oE {t : a8} {g : ah} (h : qs t g = true) : (∀ x ∈ g.nodes, x < t.nodes.length) ∧ ∀ x ∈ g.edges, x.typ < t.edges.length := by
 simp only [qs, Bool.and_eq_true, Bool.not_eq_true', List.any_eq_false, decide_eq_true_eq] at h
 exact ⟨fun x hx => by have := h.1 x hx; omega, fun x hx => by have := h.2 x hx; omega⟩
def jV (t : a8) (a : Int) : Bool := decide (a ≥ 0) && decide (a < (t.nodes.length : Int))
theorem pJ {k : Nat} {t : a8} (ht : BT t) (hk : 2000 < k) (l : List Int) (hl : l.length ≤ 1000) : eo k t l = some (cond (ji t != 0) (ji t) (cond (l.any fun a => !jV t a) 6 0), ()) := by
 have c1 := bu (l := l) (q := fun z2 => eK z2.1 t) (p := fun a => !jV t a) (fun x _ => by
  simp only [eK, eE, gT, Option.bind_some, jV]; congr 1; rw [Bool.eq_iff_iff]; simp <;> omega) (cI hl (by omega))
 simp only [eo, (gC ht hk).1, Option.bind_some, kq, c1, eE]
theorem lr {k : Nat} {t : a8} (ht : BT t) (hk : 2000 < k) (a b : Int) : aH k t a b = some (cond (ji t != 0) (ji t) (cond (!jV t a || !jV t b) 6 0), ()) := by
 have hn := ht.n
 have e7 : IntKind.i64.wrap ((t.nodes.length : Int) - 1) = (t.nodes.length : Int) - 1 := jh (by omega) (by omega)
 have e8 : ∀ z : Int, decide (z ≤ (t.nodes.length : Int) - 1) = decide (z < (t.nodes.length : Int)) := fun z => decide_eq_decide.2 (by omega)
 simp only [aH, ag, (gC ht hk).2, Option.bind_some, eE, jP, gT, e7, e8, jV]
theorem i9 {α : Type} {l : List α} (h : l.length ≤ 1000000) : gO l = some (l, ()) := by rw [gO, bO h]; rfl
theorem lS {t : a8} (ht : BT t) (a : Int) : ∀ y ∈ be t a, BA y := k6 ht 32 a
theorem jr {t : a8} (ht : BT t) (a : Int) : (be t a).length ≤ 960 := iX ht 32 a
theorem pr {k : Nat} {t : a8} (ht : t6 t) (hk : 2000 < k) {a : Int} (ha : jV t a = true) : cL k t a = some (be t a, ()) ∧ ax k t a = some (be t a, ()) := by
 simp [jV] at ha
 have hn := ht.n
 obtain ⟨i, rfl⟩ : ∃ i : Nat, a = i := ⟨a.toNat, by omega⟩
 exact mm ht.b 31 k 32 i (by omega) (by omega) (by omega) (by omega) (by omega) fun j x _ hx => (ht.par j x hx).2
theorem pC (x : bT) : (⟨x.name, x.low, x.high, x.names⟩ : bT) = x := rfl
theorem pf {k : Nat} {t : a8} (ht : t6 t) (hk : 2000 < k) (h0 : ji t = 0) (a : Int) : types_Attrs k t a = some (cond (jV t a) (be t a) [], cond (jV t a) 0 6, ()) := by
 rw [types_Attrs, pJ ht.b hk [a] (by simp)]
 simp only [Option.bind_some, h0, bne_self_eq_false, cond_false, List.any_cons, List.any_nil, Bool.or_false]
 cases ha : jV t a with
 | false => rfl
 | true =>
  have hl := jr ht.b a
  have hm := lS ht.b a
  simp only [(pr ht hk ha).1, Bool.not_true, cond_false, bne_self_eq_false, Option.bind_some]
  generalize be t a = l at *
  have H : ∀ c i fuel, l.length - i = c → i ≤ l.length → l.length - i < fuel → types_Attrs.l0 l.length fuel l (i : Int) = some (l, ()) := by
   intro c
   induction c with
   | zero =>
    intro i fuel hc hi hf
    obtain rfl : i = l.length := by omega
    cases fuel with
    | zero => omega
    | succ n => simp only [types_Attrs.l0, aE, cond_false]
   | succ c ih =>
    intro i fuel hc hi hf
    cases fuel with
    | zero => omega
    | succ n =>
     have hlt : i < l.length := by omega
     have hx : l[i]? = some l[i] := List.getElem?_eq_getElem hlt
     have hb := hm _ (List.getElem_mem hlt)
     simp only [types_Attrs.l0, bf hlt, jv, Bool.and_true, cond_true, Int.toNat_natCast, fH hx, Option.bind_some, i9 (show l[i].names.length ≤ 1000000 by have := hb.2.1; omega), wS (show i < 4611686018427387904 by omega), pC, List.set_getElem_self]
     exact ih (i + 1) n (by omega) (by omega) (by omega)
  have := H _ 0 (Int.toNat (l.length : Int) + 1) rfl (by omega) (by omega)
  rw [show ((0 : Nat) : Int) = 0 from rfl] at this
  rw [this]; rfl
theorem nE {α : Type} (l : List α) : (List.range l.length).flatMap (fun i => (l[i]?).elim [] fun x => [x]) = l := by
 suffices H : ∀ n, n ≤ l.length → (List.range n).flatMap (fun i => (l[i]?).elim [] fun x => [x]) = l.take n by
  rw [H _ (Nat.le_refl _)]; simp
 intro n
 induction n with
 | zero => intro _; simp
 | succ n ih =>
  intro hn
  have hx : l[n]? = some l[n] := List.getElem?_eq_getElem (by omega)
  rw [List.range_succ, List.flatMap_append, ih (by omega), List.take_succ]
  simp [hx]
theorem nL {k : Nat} {t : a8} (ht : t6 t) (hk : 2000 < k) (h0 : ji t = 0) (a : Int) : scarfjointref04_Attrs k t a = some (cond (jV t a) (be t a) [], cond (jV t a) 0 6, ()) := by
 rw [scarfjointref04_Attrs, lr ht.b hk a a]
 simp only [Option.bind_some, h0, bne_self_eq_false, cond_false, Bool.or_self]
 cases ha : jV t a with
 | false => rfl
 | true =>
  have hl := jr ht.b a
  have hm := lS ht.b a
  simp only [(pr ht hk ha).2, Bool.not_true, cond_false, bne_self_eq_false, Option.bind_some]
  generalize be t a = l at *
  rw [jF (F := scarfjointref04_Attrs.l0 l) l.length (fun i => (l[i]?).elim [] fun x => [x]) (fun acc => some (acc, ())) [] k (fun n acc => by simp only [scarfjointref04_Attrs.l0, aE, cond_false]) (fun n acc i hi hacc => by
   have hx : l[i]? = some l[i] := List.getElem?_eq_getElem hi
   have hb := (hm _ (List.getElem_mem hi)).2.1
   have hal : acc.length ≤ 1 * i := by rw [hacc, List.nil_append]; exact eR (fun j => by cases l[j]? <;> simp) i
   simp only [scarfjointref04_Attrs.l0, bf hi, jv, Bool.and_true, cond_true, Int.toNat_natCast, fH hx, Option.bind_some, List.nil_append, List.length_nil, List.length_cons, Nat.zero_add, bO (show l[i].names.length ≤ 1000000 by omega), bO (show acc.length + 1 ≤ 1000000 by omega), wS (show i < 4611686018427387904 by omega), pC, hx, Option.elim]) (by omega), List.nil_append, nE]
  rfl
end Go.Ev.Pl
end
section
set_option linter.unusedVariables false
namespace Go.Ev.Pl
structure BP (p : aj) : Prop where
 g : BG p.graph
 s : p.slots.length ≤ 15
 t : p.tests.length ≤ 15
def gJ (n : Int) (x : mX) : Bool := decide (x.var ≥ -1) && (decide (x.var < n) && (decide (x.add ≥ -1000000) && decide (x.add ≤ 1000000)))
def gw (n : Int) (x : dJ) : Int := cond (x.kind != 1 && x.kind != 2) 1 (cond (!gJ n x.left || !gJ n x.right) 6 0)
def qG (n : Int) (l : List dJ) : Int := cond (decide (n < 0) || decide (n > 12)) 6 (cond (decide ((l.length : Int) > 40)) 3 (lm (ca (fun _ x => cond (gw n x != 0) (some (gw n x, ())) none) l)))
theorem wj (n : Int) (x : dJ) : dR n x = some (gw n x, ()) := by
 simp only [dR, dA, eE, jP, gT, Option.bind_some, gw, gJ]
theorem uX (n : Int) (x : dJ) : cz n x = some (gw n x, ()) := by
 have e : ∀ z : mX, (decide (z.var < -1) || (decide (z.var ≥ n) || (decide (z.add < -1000000) || decide (z.add > 1000000)))) = !gJ n z := fun z => by
  rw [Bool.eq_iff_iff]; simp [gJ] <;> omega
 simp only [cz, bN, eE, jP, gT, Option.bind_some, gw, e]
 cases gJ n x.left <;> cases gJ n x.right <;> rfl
theorem u0 {k : Nat} {n : Int} {l : List dJ} (hl : l.length ≤ 1000) (hk : 2000 < k) : difference_Valid n l = some (qG n l, ()) ∧ scarfjointref03_Valid k n l = some (qG n l, ()) := by
 have l1 := bZ (F := difference_Valid.l0 n l l.length) l () (fun _ x => cond (gw n x != 0) (some (gw n x, ())) none) (Int.toNat (l.length : Int) + 1) (fun m => by simp only [difference_Valid.l0, aE, cond_false]) (fun m i x hx hp => by
  simp only [difference_Valid.l0, bf (aN hx), cond_true, idx_some hx, Option.bind_some, wj, cX, wS (show i < 4611686018427387904 by have := aN hx; omega)]) (by omega)
 have l2 := bZ (F := scarfjointref03_Valid.l0 n l) l () (fun _ x => cond (gw n x != 0) (some (gw n x, ())) none) k (fun m => by simp only [scarfjointref03_Valid.l0, aE, cond_false]) (fun m i x hx hp => by
  simp only [scarfjointref03_Valid.l0, bf (aN hx), cond_true, idx_some hx, Option.bind_some, uX, cX, wS (show i < 4611686018427387904 by have := aN hx; omega)]) (by omega)
 constructor
 ·simp only [difference_Valid, l1, qG, eE, gT, Option.bind_some]
  cases (decide (n < 0) || decide (n > 12)) <;> cases decide ((l.length : Int) > 40) <;> first | rfl | exact kj _
 ·simp only [scarfjointref03_Valid, l2, qG, eE, gT, Option.bind_some]
  cases (decide (n < 0) || decide (n > 12)) <;> cases decide ((l.length : Int) > 40) <;> first | rfl | exact kj _
def iW (t : a8) (p : aj) (node attr : Int) : Bool :=
 decide (node ≥ 0) && (decide (node < (p.graph.nodes.length : Int)) && match aB p.graph.nodes node with | some x => decide (attr ≥ 0) && decide (attr < ((be t x).length : Int)) | none => false)
structure jo (t : a8) (g : ah) : Prop where
 ok : t6 t
 e : ji t = 0
 gr : xI g
 ty : qs t g = true
theorem ld {t : a8} {g : ah} (h : jo t g) {x : Int} (hx : x ∈ g.nodes) : jV t x = true := by
 have h1 := h.gr.node x hx
 have h2 := (oE h.ty).1 x hx
 simp [jV]; omega
theorem vV {k : Nat} {t : a8} {p : aj} (h : jo t p.graph) (hk : 2000 < k) (s : dM) : ∃ a, dX k t p s = some (a, iW t p s.node s.attr, ()) := by
 have hn := h.gr.n
 have e7 : IntKind.i64.wrap ((p.graph.nodes.length : Int) - 1) = (p.graph.nodes.length : Int) - 1 := jh (by omega) (by omega)
 simp only [dX, aX, eE, jP, Option.bind_some, iW, e7]
 by_cases h1 : 0 ≤ s.node ∧ s.node < p.graph.nodes.length
 ·obtain ⟨x, x1, x2, x3⟩ := bB h1.1 h1.2
  have i1 := ld h x3
  have d1 : decide (s.node ≥ 0) = true := decide_eq_true h1.1
  have d2 : decide (s.node ≤ (p.graph.nodes.length : Int) - 1) = true := decide_eq_true (by omega)
  have d3 : decide (s.node < (p.graph.nodes.length : Int)) = true := decide_eq_true h1.2
  have hl := jr h.ok.b x
  have e8 : IntKind.i64.wrap (((be t x).length : Int) - 1) = ((be t x).length : Int) - 1 := jh (by omega) (by omega)
  simp only [x1, d1, d2, d3, Option.bind_some, pf h.ok hk h.e, i1, cond_true, Bool.and_self, Bool.not_true, cond_false, e8, Bool.true_and]
  by_cases h2 : 0 ≤ s.attr ∧ s.attr < (be t x).length
  ·obtain ⟨y, y1, y2, y3⟩ := bB h2.1 h2.2
   have d4 : decide (s.attr ≥ 0) = true := decide_eq_true h2.1
   have d5 : decide (s.attr ≤ ((be t x).length : Int) - 1) = true := decide_eq_true (by omega)
   have d6 : decide (s.attr < ((be t x).length : Int)) = true := decide_eq_true h2.2
   have d7 : decide (0 ≤ s.attr) = true := decide_eq_true h2.1
   simp only [d4, d5, d6, d7, Bool.and_self, Bool.not_true, cond_false, cond_true, nth, y2, Option.bind_some]
   exact ⟨_, rfl⟩
  ·have d4 : (decide (s.attr ≥ 0) && decide (s.attr ≤ ((be t x).length : Int) - 1)) = false := by simp; omega
   have d5 : (decide (s.attr ≥ 0) && decide (s.attr < ((be t x).length : Int))) = false := by simp; omega
   simp only [d4, d5]
   exact ⟨_, rfl⟩
 ·have d1 : (decide (s.node ≥ 0) && decide (s.node ≤ (p.graph.nodes.length : Int) - 1)) = false := by simp; omega
  have d2 : ∀ b, (decide (s.node ≥ 0) && (decide (s.node < (p.graph.nodes.length : Int)) && b)) = false := fun b => by
   rw [← Bool.and_assoc]; simp; intros; omega
  simp only [d1, d2]
  exact ⟨_, rfl⟩
theorem tL {k : Nat} {t : a8} {p : aj} (h : jo t p.graph) (hk : 2000 < k) (node attr : Int) : ∃ a, cb k t p node attr = some (a, iW t p node attr, ()) := by
 have hn := h.gr.n
 simp only [cb, eE, gT, Option.bind_some, iW]
 by_cases h1 : 0 ≤ node ∧ node < p.graph.nodes.length
 ·obtain ⟨x, x1, x2, x3⟩ := bB h1.1 h1.2
  have i1 := ld h x3
  have d1 : decide (node < 0) = false := decide_eq_false (by omega)
  have d2 : decide (node ≥ (p.graph.nodes.length : Int)) = false := decide_eq_false (by omega)
  have d3 : decide (node < (p.graph.nodes.length : Int)) = true := decide_eq_true h1.2
  have d0 : decide (node ≥ 0) = true := decide_eq_true h1.1
  simp only [x1, d0, d1, d2, d3, Option.bind_some, nL h.ok hk h.e, i1, cond_true, Bool.or_self, cond_false, Bool.true_and, bne_self_eq_false, Bool.false_or]
  by_cases h2 : 0 ≤ attr ∧ attr < (be t x).length
  ·obtain ⟨y, y1, y2, y3⟩ := bB h2.1 h2.2
   have d4 : decide (attr ≥ 0) = true := decide_eq_true h2.1
   have d5 : decide (attr < 0) = false := decide_eq_false (by omega)
   have d6 : decide (attr < ((be t x).length : Int)) = true := decide_eq_true h2.2
   have d7 : decide (0 ≤ attr) = true := decide_eq_true h2.1
   have d8 : decide (attr ≥ ((be t x).length : Int)) = false := decide_eq_false (by omega)
   simp only [d4, d5, d6, d7, d8, Bool.or_self, Bool.and_self, cond_false, cond_true, nth, y2, Option.bind_some]
   exact ⟨_, rfl⟩
  ·have d4 : (decide (attr < 0) || decide (attr ≥ ((be t x).length : Int))) = true := by simp; omega
   have d5 : (decide (attr ≥ 0) && decide (attr < ((be t x).length : Int))) = false := by simp; omega
   simp only [d4, d5]
   exact ⟨_, rfl⟩
 ·have d1 : (decide (node < 0) || decide (node ≥ (p.graph.nodes.length : Int))) = true := by simp; omega
  have d2 : ∀ b, (decide (node ≥ 0) && (decide (node < (p.graph.nodes.length : Int)) && b)) = false := fun b => by
   rw [← Bool.and_assoc]; simp; intros; omega
  simp only [d1, d2]
  exact ⟨_, rfl⟩
def d9 (t : a8) (p : aj) (s : dM) : Bool := !iW t p s.node s.attr || !gJ p.vars s.term
def nH (p : aj) (i : Nat) : Bool := p.slots.any fun s => s.term.var == (i : Int)
def ik (p : aj) (v : Nat) : Bool := (List.range' v (p.vars.toNat - v)).all (nH p)
def iF (t : a8) (p : aj) : Int :=
 cond (ji t != 0) (ji t) (cond (kI p.graph != 0) (kI p.graph) (cond (!qs t p.graph) 13 (cond (decide (p.vars < 0) || decide (p.vars > 12)) 6
  (cond (decide ((p.slots.length : Int) > 10) || decide ((p.tests.length : Int) > 10)) 3 (cond (p.slots.any (d9 t p)) 6
   (cond (qG p.vars p.tests != 0) (qG p.vars p.tests) (cond (!ik p 0) 9 0)))))))
def qf (x : dM) (s : List Bool) : List Bool := cond (decide (x.term.var ≥ 0)) (s.set (Int.toNat x.term.var) true) s
theorem mS (x : dM) (s : List Bool) : (qf x s).length = s.length := by simp only [qf]; cases decide (x.term.var ≥ 0) <;> simp
theorem p0 (l : List dM) : ∀ s, (l.foldl (fun s x => qf x s) s).length = s.length := by
 induction l with
 | nil => intro s; rfl
 | cons x l ih => intro s; rw [List.foldl_cons, ih, mS]
theorem pn (l : List dM) (i : Nat) : ∀ s : List Bool, i < s.length → (l.foldl (fun s x => qf x s) s)[i]? = some (s[i]?.getD false || l.any fun x => x.term.var == (i : Int)) := by
 induction l with
 | nil => intro s h; simp [h]
 | cons x l ih =>
  intro s h
  rw [List.foldl_cons, ih _ (by rw [mS]; exact h), List.any_cons, ← Bool.or_assoc]
  congr 2
  simp only [qf]
  by_cases h1 : x.term.var ≥ 0
  ·rw [decide_eq_true h1, cond_true]
   by_cases h2 : x.term.var = i
   ·have : x.term.var.toNat = i := by omega
    rw [this, h2]; simp [h]
   ·have : x.term.var.toNat ≠ i := by omega
    rw [List.getElem?_set_ne this]
    have : (x.term.var == (i : Int)) = false := by simpa using h2
    rw [this]; simp
  ·have : (x.term.var == (i : Int)) = false := by simp; omega
   rw [decide_eq_false h1, cond_false, this]; simp
theorem rA {k : Nat} {t : a8} {p : aj} (ht : BT t) (hp : BP p) (hk : 2000 < k) : attribute_Valid k t p = some (iF t p, ()) := by
 have hg := hp.g
 have hs := hp.s
 have h1 := hg.n
 have h2 := hg.e
 have c1 := bu (l := p.graph.nodes) (q := fun z2 => dB z2.1 t) (p := fun n => decide (n ≥ (t.nodes.length : Int))) (fun x _ => rfl) (cI h1 (by omega))
 have c2 := bu (l := p.graph.edges) (q := fun z2 => dF z2.1 t) (p := fun x => decide (x.typ ≥ (t.edges.length : Int))) (fun x _ => rfl) (cI h2 (by omega))
 have c3 : ((p.graph.nodes.any fun n => decide (n ≥ (t.nodes.length : Int))) || (p.graph.edges.any fun x => decide (x.typ ≥ (t.edges.length : Int)))) = !qs t p.graph := by simp [qs]
 have c4 : (!(decide (p.vars ≥ 0) && decide (p.vars ≤ 12))) = (decide (p.vars < 0) || decide (p.vars > 12)) := by rw [Bool.eq_iff_iff]; simp <;> omega
 simp only [attribute_Valid, aX, iF, (gC ht hk).1, (jS hg (show 200 < k by omega)).1, kq, oS, c1, c2, c3, c4, eE, gT, jP, Option.bind_some]
 cases h3 : (ji t != 0) with
 | true => rfl
 | false =>
  cases h4 : (kI p.graph != 0) with
  | true => rfl
  | false =>
   cases h5 : qs t p.graph with
   | false => rfl
   | true =>
    cases h6 : (decide (p.vars < 0) || decide (p.vars > 12)) with
    | true => rfl
    | false =>
     cases h7 : (decide ((p.slots.length : Int) > 10) || decide ((p.tests.length : Int) > 10)) with
     | true => rfl
     | false =>
      have ty0 : ji t = 0 := by simpa using h3
      have hgt : jo t p.graph := ⟨ka ht ty0, ty0, jl (by simpa using h4), h5⟩
      have hv : 0 ≤ p.vars ∧ p.vars ≤ 12 := by simp at h6; omega
      obtain ⟨V, hV⟩ : ∃ V : Nat, p.vars = V := ⟨p.vars.toNat, by omega⟩
      have hc : (decide (0 ≤ p.vars) && decide (p.vars ≤ p.vars) && cP (Int.toNat p.vars)) = true := by
       rw [bO (by omega)]; simp; omega
      have L := tJ (F := attribute_Valid.l0 k t p p.slots p.slots.length) p.slots (fun s => (p, s, ())) (fun x => cond (d9 t p x) (some (6, ())) none) qf (fun _ s => s.length = V) (Int.toNat (p.slots.length : Int) + 1) (List.replicate (Int.toNat p.vars) false) (by rw [List.length_replicate]; omega)
       (fun n s _ => by simp only [attribute_Valid.l0, aE, cond_false]) (fun n s i x hx hs' => by
        obtain ⟨a, ha⟩ := vV hgt hk x
        have hi := aN hx
        have e7 : IntKind.i64.wrap (p.vars - 1) = p.vars - 1 := jh (by omega) (by omega)
        have e8 : (!iW t p x.node x.attr || (!(decide (x.term.var ≥ -1) && decide (x.term.var ≤ p.vars - 1)) || !(decide (x.term.add ≥ -1000000) && decide (x.term.add ≤ 1000000)))) = d9 t p x := by
         simp only [d9, gJ]; congr 1; rw [Bool.eq_iff_iff]; simp <;> omega
        simp only [attribute_Valid.l0, aX, bf hi, cond_true, idx_some hx, Option.bind_some, ha, eE, jP, gT, e7, e8, cX, wS (show i < 4611686018427387904 by omega)]
        cases hb : d9 t p x with
        | true => rfl
        | false =>
         simp only [cond_false, qf]
         by_cases h0 : x.term.var ≥ 0
         ·have hlt : x.term.var < s.length := by
           simp [d9, gJ] at hb; omega
          have hn : x.term.var.toNat < s.length := by omega
          have h0' : 0 ≤ x.term.var := h0
          simp only [h0, h0', hlt, decide_true, Bool.and_self, cond_true, nth, List.getElem?_eq_getElem hn, Option.bind_some]
         ·simp only [h0, decide_false, cond_false]) (fun s i x _ _ h => by rw [mS]; exact h) (by omega)
      simp only [cond_false, Bool.not_true, hc, cond_true, L, Option.bind_some, qQ (d9 t p), fx]
      cases p.slots.any (d9 t p) with
      | true => rfl
      | false =>
       simp only [cond_false, aF, (u0 (k := k) (n := p.vars) (show p.tests.length ≤ 1000 by have := hp.t; omega) hk).1, Option.bind_some, eE]
       rw [vH false (cI (m := 1000) (by rw [p0]; simp; omega) (by omega))]
       have key : (List.foldl (fun s x => qf x s) (List.replicate (Int.toNat p.vars) false) p.slots).any (false == ·) = !ik p 0 := by
        rw [Bool.eq_iff_iff]
        simp only [List.any_eq_true, beq_iff_eq, Bool.not_eq_true', ik, Nat.sub_zero, List.all_eq_false, List.mem_range'_1, Nat.zero_le, true_and, Nat.zero_add]
        constructor
        ·rintro ⟨b, hb, rfl⟩
         obtain ⟨i, hi, hb⟩ := List.getElem_of_mem hb
         have hi' : i < (List.replicate (Int.toNat p.vars) false).length := by rw [p0] at hi; exact hi
         have := pn p.slots i (List.replicate (Int.toNat p.vars) false) hi'
         rw [List.getElem?_eq_getElem hi, hb] at this
         refine ⟨i, by simpa using hi', ?_⟩
         simp at hi'
         simp [hi'] at this
         simpa [nH] using this
        ·rintro ⟨i, hi, hb⟩
         have hi' : i < (List.replicate (Int.toNat p.vars) false).length := by simpa using hi
         have := pn p.slots i (List.replicate (Int.toNat p.vars) false) hi'
         refine ⟨_, List.mem_of_getElem? this, ?_⟩
         simp only [nH] at hb
         simp [hi]; simpa using hb
       rw [key]
       simp only [Option.bind_some, eE]
theorem oJ {k : Nat} {t : a8} {p : aj} (ht : BT t) (hp : BP p) (hk : 2000 < k) : scarfjointref21_Valid k t p = some (iF t p, ()) := by
 have hg := hp.g
 have hs := hp.s
 simp only [scarfjointref21_Valid, iF, (gC ht hk).2, (jS hg (show 200 < k by omega)).2, eE, gT, jP, Option.bind_some]
 cases h3 : (ji t != 0) with
 | true => rfl
 | false =>
  cases h4 : (kI p.graph != 0) with
  | true => rfl
  | false =>
   have ty0 : ji t = 0 := by simpa using h3
   have hgr := jl (show kI p.graph = 0 by simpa using h4)
   simp only [cond_false, nz hgr (show 200 < k by omega), Option.bind_some]
   cases h5 : qs t p.graph with
   | false => rfl
   | true =>
    cases h6 : (decide (p.vars < 0) || decide (p.vars > 12)) with
    | true => rfl
    | false =>
     cases h7 : (decide ((p.slots.length : Int) > 10) || decide ((p.tests.length : Int) > 10)) with
     | true => rfl
     | false =>
      have hgt : jo t p.graph := ⟨ka ht ty0, ty0, hgr, h5⟩
      have hv : 0 ≤ p.vars ∧ p.vars ≤ 12 := by simp at h6; omega
      obtain ⟨V, hV⟩ : ∃ V : Nat, p.vars = V := ⟨p.vars.toNat, by omega⟩
      have l1 := bZ (F := scarfjointref21_Valid.l0 k t p) p.slots (p, ()) (fun _ x => cond (d9 t p x) (some (6, ())) none) k (fun n => by simp only [scarfjointref21_Valid.l0, aE, cond_false]) (fun n i x hx _ => by
       obtain ⟨a, ha⟩ := tL hgt hk x.node x.attr
       have hi := aN hx
       have e8 : (!iW t p x.node x.attr || (decide (x.term.var < -1) || (decide (x.term.var ≥ p.vars) || !(decide (x.term.add ≥ -1000000) && decide (x.term.add ≤ 1000000))))) = d9 t p x := by
         simp only [d9, gJ]; congr 1; rw [Bool.eq_iff_iff]; simp <;> omega
       simp only [scarfjointref21_Valid.l0, ck, bf hi, cond_true, idx_some hx, Option.bind_some, ha, eE, jP, gT, e8, cX, wS (show i < 4611686018427387904 by omega)]) (by omega)
      have oc : ∀ i : Nat, scarfjointref21_occurs k p i = some (nH p i, ()) := fun i => by
       have := bZ (F := scarfjointref21_occurs.l0 i p) p.slots () (fun _ x => cond (x.term.var == (i : Int)) (some (true, ())) none) k (fun n => by simp only [scarfjointref21_occurs.l0, aE, cond_false]) (fun n j x hx _ => by
        simp only [scarfjointref21_occurs.l0, bf (aN hx), cond_true, idx_some hx, Option.bind_some, cX, wS (show j < 4611686018427387904 by have := aN hx; omega)]) (by omega)
       rw [scarfjointref21_occurs, this, bH (fun x : dM => x.term.var == (i : Int))]
       simp only [Option.bind_some, nH]
       cases (p.slots.any fun x => x.term.var == (i : Int)) <;> rfl
      have l2 := lT (F := scarfjointref21_Valid.l2 k p) V () (fun i => cond (!nH p i) (some (9, ())) none) 0 (fun n i hi => by
       have : ¬ ((i : Int) < p.vars) := by omega
       simp [scarfjointref21_Valid.l2, this]) (fun n i _ hi _ => by
       have : (i : Int) < p.vars := by omega
       simp only [scarfjointref21_Valid.l2, this, decide_true, cond_true, oc, Option.bind_some, wS (show i < 4611686018427387904 by omega)]
       cases nH p i <;> rfl) k (by omega)
      have l3 : db (fun i => cond (!nH p i) (some ((9 : Int), ())) none) 0 V = cond (!ik p 0) (some (9, ())) none := by
       have e : ik p 0 = (List.range' 0 V).all (nH p) := by simp [ik, hV]
       rw [e]
       clear e l2 l1 hV
       generalize 0 = j
       induction V generalizing j with
       | zero => rfl
       | succ V ih =>
        rw [db, List.range'_succ, List.all_cons]
        cases nH p j with
        | false => rfl
        | true => simp only [Bool.not_true, cond_false, Bool.true_and]; exact ih (j + 1)
      rw [show ((0 : Nat) : Int) = 0 from rfl, Nat.sub_zero, l3] at l2
      simp only [cond_false, Bool.not_true, l1, Option.bind_some, bH (d9 t p), fx]
      cases p.slots.any (d9 t p) with
      | true => rfl
      | false =>
       simp only [cond_false, aF, (u0 (k := k) (n := p.vars) (show p.tests.length ≤ 1000 by have := hp.t; omega) hk).2, Option.bind_some, l2, fx]
       cases (qG p.vars p.tests != 0) with
       | true => rfl
       | false => cases ik p 0 <;> rfl
end Go.Ev.Pl
end
