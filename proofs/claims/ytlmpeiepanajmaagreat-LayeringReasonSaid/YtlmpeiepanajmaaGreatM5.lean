import Derived.Test.YtlmpeiepanajmaaGreatM4
set_option linter.all false
section
open Go.Proofs
namespace Go.Ev
theorem api_NodeType_118.good (k : Nat) : G 118 ⟨[(HL (.nm 1)), (.hole (.fn (.pair (.nm 1) .unit) .bool))], [HI], fun x => api_NodeType_118 x.1 x.2.1⟩ := by
 have c := cn
 have l := ln c Tryz.f118 [] (by kernel_rfl)
 have l := lc c l [] 0 ⟨[0, 1, 7, 8], [(HL (.nm 1)), (.hole (.fn (.pair (.nm 1) .unit) .bool)), HI, HI]⟩ [(.exit 0, ⟨[], []⟩), (.ret, ⟨[4], [HI]⟩)] (fun n x => api_NodeType_118.l0 x.1 x.2.1 x.2.2.1 n x.2.2.2.1) (fun x => (Int.toNat x.2.2.1 + 1)) (fun x => by kernel_rfl) (fun n x => by kernel_rfl) (by kernel_rfl)
 exact fo c l [] Tryz.func118 (by kernel_rfl) (fun x => by kernel_rfl)
theorem da.good (k : Nat) : G 85 ⟨[(HL (.nm 1)), (.hole (.fn (.pair (.nm 1) .unit) .bool))], [HB], fun x => da x.1 x.2.1⟩ := f0 (cf (api_NodeType_118.good k) cn) [] [] Tryz.func85 (by kernel_rfl) fun x => by kernel_rfl
theorem dP.good (k : Nat) : G 220 ⟨[(.hole (.int .u8))], [HB], fun x => dP x.1⟩ := f0 cn [] [(1, [(2, .bool)])] Tryz.func220 (by kernel_rfl) fun x => by kernel_rfl
theorem token_run.good (k : Nat) : G 221 ⟨[HS, (.hole (.fn (.pair (.int .u8) .unit) .bool))], [HI], fun x => token_run k x.1 x.2.1⟩ := by
 have c := cn
 have l := ln c Tryz.f221 [] (by kernel_rfl)
 have l := lc c l [(2, [(16, .bool)])] 0 ⟨[0, 1, 5], [HS, (.hole (.fn (.pair (.int .u8) .unit) .bool)), HI]⟩ [(.exit 0, ⟨[5], [HI]⟩)] (fun n x => token_run.l0 x.1 x.2.1 n x.2.2.1) (fun x => k) (fun x => by kernel_rfl) (fun n x => by kernel_rfl) (by kernel_rfl)
 exact fo c l [(2, [(16, .bool)])] Tryz.func221 (by kernel_rfl) (fun x => by kernel_rfl)
theorem cU.good (k : Nat) : G 223 ⟨[(.hole (.int .u8))], [HB], fun x => cU x.1⟩ := f0 cn [] [(1, [(2, .bool)])] Tryz.func223 (by kernel_rfl) fun x => by kernel_rfl
theorem top223.good (k : Nat) : GC 223 ⟨.unit, (.pair (.int .u8) .unit), .bool, fun _ x => (cU x.1).map (·.1)⟩ := ot (.pair (.int .u8) .unit) .bool (cU.good k) rfl rfl
theorem ff.good (k : Nat) : G 222 ⟨[(.hole (.int .u8))], [HB], fun x => ff x.1⟩ := f0 (cf (dP.good k) (cf (cU.good k) (cc (top223.good k) cn))) [] [(1, [(2, .bool)])] Tryz.func222 (by kernel_rfl) fun x => by kernel_rfl
theorem eh.good (k : Nat) : GC 263 ⟨.unit, (.pair (.int .u8) .unit), .bool, fun y x => eh x.1⟩ := c0 cn [(1, [(2, .bool)])] Tryz.func263 (by kernel_rfl) fun x y => by kernel_rfl
theorem fk.good (k : Nat) : G 224 ⟨[HS], [HI, HI], fun x => fk k x.1⟩ := f0 (cf (token_run.good k) (cc (eh.good k) cn)) [] [(2, [(19, .bool)])] Tryz.func224 (by kernel_rfl) fun x => by kernel_rfl
theorem slices_Index_lstring.good (k : Nat) : G 227 ⟨[(HL .str), HS], [HI], fun x => slices_Index_lstring x.1 x.2.1⟩ := by
 have c := cn
 have l := ln c Tryz.f227 [] (by kernel_rfl)
 have l := lc c l [] 0 ⟨[0, 1, 7, 8], [(HL .str), HS, HI, HI]⟩ [(.exit 0, ⟨[], []⟩), (.ret, ⟨[4], [HI]⟩)] (fun n x => slices_Index_lstring.l0 x.1 x.2.1 x.2.2.1 n x.2.2.2.1) (fun x => (Int.toNat x.2.2.1 + 1)) (fun x => by kernel_rfl) (fun n x => by kernel_rfl) (by kernel_rfl)
 exact fo c l [] Tryz.func227 (by kernel_rfl) (fun x => by kernel_rfl)
theorem aU.good (k : Nat) : G 180 ⟨[(HL .str), HS], [HB], fun x => aU x.1 x.2.1⟩ := f0 (cf (slices_Index_lstring.good k) cn) [] [] Tryz.func180 (by kernel_rfl) fun x => by kernel_rfl
theorem gA.good (k : Nat) : G 225 ⟨[HS], [HB], fun x => gA x.1⟩ := f0 (cf (aU.good k) cn) [] [(1, [(2, .bool)])] Tryz.func225 (by kernel_rfl) fun x => by kernel_rfl
theorem top222.good (k : Nat) : GC 222 ⟨.unit, (.pair (.int .u8) .unit), .bool, fun _ x => (ff x.1).map (·.1)⟩ := ot (.pair (.int .u8) .unit) .bool (ff.good k) rfl rfl
theorem eL.good (k : Nat) : G 178 ⟨[HS], [HI, HI, HI], fun x => eL k x.1⟩ := f0 (cf (dP.good k) (cf (token_run.good k) (cf (ff.good k) (cc (top222.good k) (cf (cU.good k) (cc (top223.good k) (cf (fk.good k) (cf (gA.good k) (cf (lib226.good k) cn))))))))) [] [] Tryz.func178 (by kernel_rfl) fun x => by kernel_rfl
theorem gV.good (k : Nat) : G 144 ⟨[(HN 23)], [HS, HB], fun x => gV k x.1⟩ := f0 (cf (eL.good k) cn) [] [(7, [(2, .str), (3, .bool)])] Tryz.func144 (by kernel_rfl) fun x => by kernel_rfl
theorem bJ.good (k : Nat) : G 108 ⟨[HS], [HB], fun x => bJ k x.1⟩ := f0 (cf (gV.good k) cn) [] [] Tryz.func108 (by kernel_rfl) fun x => by kernel_rfl
theorem cS.good : ∀ k : Nat, G 110 ⟨[(HN 3), HI], [(RN 0)], fun x => cS k x.1 x.2.1⟩
 | 0 => dB Tryz.func110 (c := eF Tryz.f110) (by kernel_rfl) (by kernel_rfl) fun _ => rfl
 | k + 1 => by
  have h := cS.good k
  exact f0 (cf (h) cn) [] [] Tryz.func110 (by kernel_rfl) fun x => by kernel_rfl
theorem api_Attr_179.good (k : Nat) : G 179 ⟨[(HL (.nm 0)), (.hole (.fn (.pair (.nm 0) .unit) .bool))], [HI], fun x => api_Attr_179 x.1 x.2.1⟩ := by
 have c := cn
 have l := ln c Tryz.f179 [] (by kernel_rfl)
 have l := lc c l [] 0 ⟨[0, 1, 7, 8], [(HL (.nm 0)), (.hole (.fn (.pair (.nm 0) .unit) .bool)), HI, HI]⟩ [(.exit 0, ⟨[], []⟩), (.ret, ⟨[4], [HI]⟩)] (fun n x => api_Attr_179.l0 x.1 x.2.1 x.2.2.1 n x.2.2.2.1) (fun x => (Int.toNat x.2.2.1 + 1)) (fun x => by kernel_rfl) (fun n x => by kernel_rfl) (by kernel_rfl)
 exact fo c l [] Tryz.func179 (by kernel_rfl) (fun x => by kernel_rfl)
theorem fZ.good (k : Nat) : G 145 ⟨[(HL (.nm 0)), (.hole (.fn (.pair (.nm 0) .unit) .bool))], [HB], fun x => fZ x.1 x.2.1⟩ := f0 (cf (api_Attr_179.good k) cn) [] [] Tryz.func145 (by kernel_rfl) fun x => by kernel_rfl
theorem types_names.good (k : Nat) : G 147 ⟨[(HL .str)], [HI], fun x => types_names k x.1⟩ := by
 have c := cf (bJ.good k) (cf (aU.good k) cn)
 have l := ln c Tryz.f147 [] (by kernel_rfl)
 have l := lc c l [] 0 ⟨[0, 8, 9, 10], [(HL .str), (HL .str), HI, HI]⟩ [(.exit 0, ⟨[], []⟩), (.ret, ⟨[2], [HI]⟩)] (fun n x => types_names.l0 k x.1 x.2.1 x.2.2.1 n x.2.2.2.1) (fun x => (Int.toNat x.2.2.1 + 1)) (fun x => by kernel_rfl) (fun n x => by kernel_rfl) (by kernel_rfl)
 exact fo c l [] Tryz.func147 (by kernel_rfl) (fun x => by kernel_rfl)
theorem dN.good (k : Nat) : GC 146 ⟨(.pair (.ptr (.nm 0)) .unit), (.pair (.nm 0) .unit), .bool, fun y x => dN x.1 y.1⟩ := c0 cn [] Tryz.func146 (by kernel_rfl) fun x y => by kernel_rfl
theorem dI.good (k : Nat) : G 111 ⟨[(HN 0), (HL (.nm 0))], [HI], fun x => dI k x.1 x.2.1⟩ := f0 (cf (bJ.good k) (cf (fZ.good k) (cc (dN.good k) (cf (types_names.good k) cn)))) [] [(10, [(6, .bool)]), (8, [(6, .bool)])] Tryz.func111 (by kernel_rfl) fun x => by kernel_rfl
theorem g9.good (k : Nat) : GC 109 ⟨(.pair (.ptr (.nm 1)) .unit), (.pair (.nm 1) .unit), .bool, fun y x => g9 x.1 y.1⟩ := c0 cn [] Tryz.func109 (by kernel_rfl) fun x y => by kernel_rfl
theorem types_node.good (k : Nat) : G 82 ⟨[(HN 3), HI], [HI], fun x => types_node k x.1 x.2.1⟩ := by
 have c := cf (da.good k) (cf (bJ.good k) (cc (g9.good k) (cf (cS.good k) (cf (dI.good k) cn))))
 have l := ln c Tryz.f82 [] (by kernel_rfl)
 have l := lc c l [(6, [(26, .bool)])] 1 ⟨[6, 7], [(RN 0), HI]⟩ [(.exit 1, ⟨[], []⟩), (.ret, ⟨[4], [HI]⟩)] (fun n x => types_node.l1 k x.1 n x.2.1) (fun x => k) (fun x => by kernel_rfl) (fun n x => by kernel_rfl) (by kernel_rfl)
 exact fo c l [(6, [(26, .bool)])] Tryz.func82 (by kernel_rfl) (fun x => by kernel_rfl)
theorem api_EdgeType_148.good (k : Nat) : G 148 ⟨[(HL (.nm 2)), (.hole (.fn (.pair (.nm 2) .unit) .bool))], [HI], fun x => api_EdgeType_148 x.1 x.2.1⟩ := by
 have c := cn
 have l := ln c Tryz.f148 [] (by kernel_rfl)
 have l := lc c l [] 0 ⟨[0, 1, 7, 8], [(HL (.nm 2)), (.hole (.fn (.pair (.nm 2) .unit) .bool)), HI, HI]⟩ [(.exit 0, ⟨[], []⟩), (.ret, ⟨[4], [HI]⟩)] (fun n x => api_EdgeType_148.l0 x.1 x.2.1 x.2.2.1 n x.2.2.2.1) (fun x => (Int.toNat x.2.2.1 + 1)) (fun x => by kernel_rfl) (fun n x => by kernel_rfl) (by kernel_rfl)
 exact fo c l [] Tryz.func148 (by kernel_rfl) (fun x => by kernel_rfl)
theorem eB.good (k : Nat) : G 113 ⟨[(HL (.nm 2)), (.hole (.fn (.pair (.nm 2) .unit) .bool))], [HB], fun x => eB x.1 x.2.1⟩ := f0 (cf (api_EdgeType_148.good k) cn) [] [] Tryz.func113 (by kernel_rfl) fun x => by kernel_rfl
theorem dV.good (k : Nat) : G 115 ⟨[HI, HI], [HB], fun x => dV x.1 x.2.1⟩ := f0 cn [] [(1, [(4, .bool)])] Tryz.func115 (by kernel_rfl) fun x => by kernel_rfl
theorem gk.good (k : Nat) : GC 114 ⟨(.pair (.ptr (.nm 2)) .unit), (.pair (.nm 2) .unit), .bool, fun y x => gk x.1 y.1⟩ := c0 cn [] Tryz.func114 (by kernel_rfl) fun x y => by kernel_rfl
theorem ft.good (k : Nat) : GC 112 ⟨(.pair (.ptr (.nm 3)) .unit), (.pair (.int .i64) .unit), .bool, fun y x => ft x.1 y.1⟩ := c0 cn [(1, [(3, .bool)])] Tryz.func112 (by kernel_rfl) fun x y => by kernel_rfl
theorem gK.good (k : Nat) : G 83 ⟨[(HN 3), HI], [HI], fun x => gK k x.1 x.2.1⟩ := f0 (cf (bJ.good k) (cc (ft.good k) (cf (eB.good k) (cc (gk.good k) (cf (dV.good k) cn))))) [] [(8, [(25, .bool)]), (7, [(25, .bool)])] Tryz.func83 (by kernel_rfl) fun x => by kernel_rfl
theorem types_Valid.good (k : Nat) : G 58 ⟨[(HN 3)], [HS, HI], fun x => types_Valid k x.1⟩ := by
 have c := cf (types_node.good k) (cf (gK.good k) cn)
 have l := ln c Tryz.f58 [] (by kernel_rfl)
 have l := lc c l [(3, [(15, .bool)])] 1 ⟨[1, 27, 28, 29], [(.boxh (.nm 3) (HN 3)), (HL (.nm 1)), HI, HI]⟩ [(.exit 1, ⟨[1], [(.boxh (.nm 3) (HN 3))]⟩), (.ret, ⟨[2, 3], [HS, HI]⟩)] (fun n x => types_Valid.l1 k x.1 x.2.1 x.2.2.1 n x.2.2.2.1) (fun x => (Int.toNat x.2.2.1 + 1)) (fun x => by kernel_rfl) (fun n x => by kernel_rfl) (by kernel_rfl)
 have l := lc c l [(3, [(15, .bool)])] 3 ⟨[1, 44, 45, 46], [(.boxh (.nm 3) (HN 3)), (HL (.nm 2)), HI, HI]⟩ [(.exit 3, ⟨[], []⟩), (.ret, ⟨[2, 3], [HS, HI]⟩)] (fun n x => types_Valid.l3 k x.1 x.2.1 x.2.2.1 n x.2.2.2.1) (fun x => (Int.toNat x.2.2.1 + 1)) (fun x => by kernel_rfl) (fun n x => by kernel_rfl) (by kernel_rfl)
 exact fo c l [(3, [(15, .bool)])] Tryz.func58 (by kernel_rfl) (fun x => by kernel_rfl)
theorem slices_Index_lint.good (k : Nat) : G 248 ⟨[(HL (.int .i64)), HI], [HI], fun x => slices_Index_lint x.1 x.2.1⟩ := by
 have c := cn
 have l := ln c Tryz.f248 [] (by kernel_rfl)
 have l := lc c l [] 0 ⟨[0, 1, 7, 8], [(HL (.int .i64)), HI, HI, HI]⟩ [(.exit 0, ⟨[], []⟩), (.ret, ⟨[4], [HI]⟩)] (fun n x => slices_Index_lint.l0 x.1 x.2.1 x.2.2.1 n x.2.2.2.1) (fun x => (Int.toNat x.2.2.1 + 1)) (fun x => by kernel_rfl) (fun n x => by kernel_rfl) (by kernel_rfl)
 exact fo c l [] Tryz.func248 (by kernel_rfl) (fun x => by kernel_rfl)
theorem bA.good (k : Nat) : G 199 ⟨[(HL (.int .i64)), HI], [HB], fun x => bA x.1 x.2.1⟩ := f0 (cf (slices_Index_lint.good k) cn) [] [] Tryz.func199 (by kernel_rfl) fun x => by kernel_rfl
theorem rule_others.good (k : Nat) : G 154 ⟨[(HL (.int .i64)), HI], [RI], fun x => rule_others x.1 x.2.1⟩ := by
 have c := cf (bA.good k) cn
 have l := ln c Tryz.f154 [] (by kernel_rfl)
 have l := lc c l [] 0 ⟨[0, 5, 7, 8], [(HL (.int .i64)), RI, HI, HI]⟩ [(.exit 0, ⟨[5], [RI]⟩)] (fun n x => rule_others.l0 x.1 x.2.2.1 n x.2.1 x.2.2.2.1) (fun x => (Int.toNat x.2.2.1 + 1)) (fun x => by kernel_rfl) (fun n x => by kernel_rfl) (by kernel_rfl)
 exact fo c l [] Tryz.func154 (by kernel_rfl) (fun x => by kernel_rfl)
theorem dK.good (k : Nat) : G 119 ⟨[(HN 13)], [RI, RI], fun x => dK x.1⟩ := f0 (cf (rule_others.good k) cn) [] [] Tryz.func119 (by kernel_rfl) fun x => by kernel_rfl
theorem slices_IndexFunc_lint.good (k : Nat) : G 74 ⟨[(HL (.int .i64)), (.hole (.fn (.pair (.int .i64) .unit) .bool))], [HI], fun x => slices_IndexFunc_lint x.1 x.2.1⟩ := by
 have c := cn
 have l := ln c Tryz.f74 [] (by kernel_rfl)
 have l := lc c l [] 0 ⟨[0, 1, 7, 8], [(HL (.int .i64)), (.hole (.fn (.pair (.int .i64) .unit) .bool)), HI, HI]⟩ [(.exit 0, ⟨[], []⟩), (.ret, ⟨[4], [HI]⟩)] (fun n x => slices_IndexFunc_lint.l0 x.1 x.2.1 x.2.2.1 n x.2.2.2.1) (fun x => (Int.toNat x.2.2.1 + 1)) (fun x => by kernel_rfl) (fun n x => by kernel_rfl) (by kernel_rfl)
 exact fo c l [] Tryz.func74 (by kernel_rfl) (fun x => by kernel_rfl)
theorem am.good (k : Nat) : G 45 ⟨[(HL (.int .i64)), (.hole (.fn (.pair (.int .i64) .unit) .bool))], [HB], fun x => am x.1 x.2.1⟩ := f0 (cf (slices_IndexFunc_lint.good k) cn) [] [] Tryz.func45 (by kernel_rfl) fun x => by kernel_rfl
theorem api_Edge_232.good (k : Nat) : G 232 ⟨[(HL (.nm 4)), (.hole (.fn (.pair (.nm 4) .unit) .bool))], [HI], fun x => api_Edge_232 x.1 x.2.1⟩ := by
 have c := cn
 have l := ln c Tryz.f232 [] (by kernel_rfl)
 have l := lc c l [] 0 ⟨[0, 1, 7, 8], [(HL (.nm 4)), (.hole (.fn (.pair (.nm 4) .unit) .bool)), HI, HI]⟩ [(.exit 0, ⟨[], []⟩), (.ret, ⟨[4], [HI]⟩)] (fun n x => api_Edge_232.l0 x.1 x.2.1 x.2.2.1 n x.2.2.2.1) (fun x => (Int.toNat x.2.2.1 + 1)) (fun x => by kernel_rfl) (fun n x => by kernel_rfl) (by kernel_rfl)
 exact fo c l [] Tryz.func232 (by kernel_rfl) (fun x => by kernel_rfl)
theorem dn.good (k : Nat) : G 183 ⟨[(HL (.nm 4)), (.hole (.fn (.pair (.nm 4) .unit) .bool))], [HB], fun x => dn x.1 x.2.1⟩ := f0 (cf (api_Edge_232.good k) cn) [] [] Tryz.func183 (by kernel_rfl) fun x => by kernel_rfl
theorem cR.good (k : Nat) : G 229 ⟨[HI, HI], [HB], fun x => cR x.1 x.2.1⟩ := f0 cn [] [(1, [(4, .bool)])] Tryz.func229 (by kernel_rfl) fun x => by kernel_rfl
theorem gM.good (k : Nat) : G 231 ⟨[(HN 4), HI], [HB], fun x => gM x.1 x.2.1⟩ := f0 (cf (cR.good k) cn) [] [(1, [(4, .bool)])] Tryz.func231 (by kernel_rfl) fun x => by kernel_rfl
theorem eX.good (k : Nat) : GC 228 ⟨.unit, (.pair (.int .i64) .unit), .bool, fun y x => eX x.1⟩ := c0 (cf (cR.good k) cn) [] Tryz.func228 (by kernel_rfl) fun x y => by kernel_rfl
theorem eU.good (k : Nat) : GC 230 ⟨(.pair (.ptr (.nm 5)) .unit), (.pair (.nm 4) .unit), .bool, fun y x => eU x.1 y.1⟩ := c0 (cf (gM.good k) cn) [] Tryz.func230 (by kernel_rfl) fun x y => by kernel_rfl
theorem ct.good (k : Nat) : G 181 ⟨[(HN 5)], [HI], fun x => ct x.1⟩ := f0 (cf (am.good k) (cf (dn.good k) (cc (eX.good k) (cc (eU.good k) cn)))) [] [(1, [(12, .bool)])] Tryz.func181 (by kernel_rfl) fun x => by kernel_rfl
theorem be.good (k : Nat) : G 185 ⟨[HI, HI, HI], [HB], fun x => be x.1 x.2.1 x.2.2.1⟩ := f0 cn [] [(1, [(6, .bool)])] Tryz.func185 (by kernel_rfl) fun x => by kernel_rfl
theorem eV.good (k : Nat) : GC 270 ⟨(.pair (.ptr (.nm 3)) .unit), (.pair (.int .i64) .unit), .bool, fun y x => eV x.1 y.1⟩ := c0 cn [(1, [(3, .bool)])] Tryz.func270 (by kernel_rfl) fun x y => by kernel_rfl
theorem eK.good (k : Nat) : G 243 ⟨[(HN 3), (HL (.int .i64))], [HI], fun x => eK k x.1 x.2.1⟩ := f0 (cf (am.good k) (cf (types_Valid.good k) (cc (eV.good k) cn))) [] [] Tryz.func243 (by kernel_rfl) fun x => by kernel_rfl
theorem types_Attrs.good (k : Nat) : G 233 ⟨[(HN 3), HI], [(RN 0), HI], fun x => types_Attrs k x.1 x.2.1⟩ := by
 have c := cf (cS.good k) (cf (eK.good k) (cf (lib265.good k) cn))
 have l := ln c Tryz.f233 [] (by kernel_rfl)
 have l := lc c l [] 0 ⟨[7, 20, 21], [(RN 0), HI, HI]⟩ [(.exit 0, ⟨[7], [(RN 0)]⟩)] (fun n x => types_Attrs.l0 x.2.1 n x.1 x.2.2.1) (fun x => (Int.toNat x.2.1 + 1)) (fun x => by kernel_rfl) (fun n x => by kernel_rfl) (by kernel_rfl)
 exact fo c l [] Tryz.func233 (by kernel_rfl) (fun x => by kernel_rfl)
theorem ek.good (k : Nat) : G 186 ⟨[(HN 3), (HN 9), (HN 7)], [(HN 0), HB], fun x => ek k x.1 x.2.1 x.2.2.1⟩ := f0 (cf (be.good k) (cf (types_Attrs.good k) cn)) [] [] Tryz.func186 (by kernel_rfl) fun x => by kernel_rfl
theorem dH.good (k : Nat) : G 266 ⟨[HI, (HN 6)], [HB], fun x => dH x.1 x.2.1⟩ := f0 cn [] [(1, [(4, .bool)])] Tryz.func266 (by kernel_rfl) fun x => by kernel_rfl
theorem eE.good (k : Nat) : G 234 ⟨[HI, (HN 8)], [HI], fun x => eE x.1 x.2.1⟩ := f0 (cf (dH.good k) cn) [] [(3, [(14, .bool)]), (1, [(5, .bool)])] Tryz.func234 (by kernel_rfl) fun x => by kernel_rfl
theorem difference_Valid.good (k : Nat) : G 187 ⟨[HI, (HL (.nm 8))], [HI], fun x => difference_Valid x.1 x.2.1⟩ := by
 have c := cf (eE.good k) cn
 have l := ln c Tryz.f187 [] (by kernel_rfl)
 have l := lc c l [(1, [(13, .bool)])] 0 ⟨[0, 17, 18, 19], [HI, (HL (.nm 8)), HI, HI]⟩ [(.exit 0, ⟨[], []⟩), (.ret, ⟨[4], [HI]⟩)] (fun n x => difference_Valid.l0 x.1 x.2.1 x.2.2.1 n x.2.2.2.1) (fun x => (Int.toNat x.2.2.1 + 1)) (fun x => by kernel_rfl) (fun n x => by kernel_rfl) (by kernel_rfl)
 exact fo c l [(1, [(13, .bool)])] Tryz.func187 (by kernel_rfl) (fun x => by kernel_rfl)
theorem slices_Index_lbool.good (k : Nat) : G 235 ⟨[(HL .bool), HB], [HI], fun x => slices_Index_lbool x.1 x.2.1⟩ := by
 have c := cn
 have l := ln c Tryz.f235 [] (by kernel_rfl)
 have l := lc c l [] 0 ⟨[0, 1, 7, 8], [(HL .bool), HB, HI, HI]⟩ [(.exit 0, ⟨[], []⟩), (.ret, ⟨[4], [HI]⟩)] (fun n x => slices_Index_lbool.l0 x.1 x.2.1 x.2.2.1 n x.2.2.2.1) (fun x => (Int.toNat x.2.2.1 + 1)) (fun x => by kernel_rfl) (fun n x => by kernel_rfl) (by kernel_rfl)
 exact fo c l [] Tryz.func235 (by kernel_rfl) (fun x => by kernel_rfl)
theorem ca.good (k : Nat) : G 188 ⟨[(HL .bool), HB], [HB], fun x => ca x.1 x.2.1⟩ := f0 (cf (slices_Index_lbool.good k) cn) [] [] Tryz.func188 (by kernel_rfl) fun x => by kernel_rfl
theorem dO.good (k : Nat) : GC 182 ⟨(.pair (.ptr (.nm 3)) .unit), (.pair (.int .i64) .unit), .bool, fun y x => dO x.1 y.1⟩ := c0 cn [] Tryz.func182 (by kernel_rfl) fun x y => by kernel_rfl
theorem dS.good (k : Nat) : GC 184 ⟨(.pair (.ptr (.nm 3)) .unit), (.pair (.nm 4) .unit), .bool, fun y x => dS x.1 y.1⟩ := c0 cn [] Tryz.func184 (by kernel_rfl) fun x y => by kernel_rfl
theorem attribute_Valid.good (k : Nat) : G 149 ⟨[(HN 3), (HN 9)], [HI], fun x => attribute_Valid k x.1 x.2.1⟩ := by
 have c := cf (am.good k) (cf (types_Valid.good k) (cf (ct.good k) (cc (dO.good k) (cf (dn.good k) (cc (dS.good k) (cf (be.good k) (cf (ek.good k) (cf (difference_Valid.good k) (cf (ca.good k) cn)))))))))
 have l := ln c Tryz.f149 [] (by kernel_rfl)
 have l := lc c l [(18, [(89, .bool)]), (11, [(53, .bool)]), (7, [(39, .bool)])] 0 ⟨[2, 3, 8, 58, 59, 60], [(.boxh (.nm 3) (HN 3)), (.boxh (.nm 9) (HN 9)), (.rowh .bool), (HL (.nm 7)), HI, HI]⟩ [(.exit 0, ⟨[3, 8], [(.boxh (.nm 9) (HN 9)), (.rowh .bool)]⟩), (.ret, ⟨[4], [HI]⟩)] (fun n x => attribute_Valid.l0 k x.1 x.2.1 x.2.2.2.1 x.2.2.2.2.1 n x.2.2.1 x.2.2.2.2.2.1) (fun x => (Int.toNat x.2.2.2.2.1 + 1)) (fun x => by kernel_rfl) (fun n x => by kernel_rfl) (by kernel_rfl)
 exact fo c l [(18, [(89, .bool)]), (11, [(53, .bool)]), (7, [(39, .bool)])] Tryz.func149 (by kernel_rfl) (fun x => by kernel_rfl)
theorem gp.good (k : Nat) : GC 236 ⟨(.pair (.ptr (.nm 3)) .unit), (.pair (.int .i64) .unit), .bool, fun y x => gp x.1 y.1⟩ := c0 cn [] Tryz.func236 (by kernel_rfl) fun x y => by kernel_rfl
theorem gj.good (k : Nat) : GC 237 ⟨(.pair (.ptr (.nm 3)) .unit), (.pair (.nm 4) .unit), .bool, fun y x => gj x.1 y.1⟩ := c0 cn [] Tryz.func237 (by kernel_rfl) fun x y => by kernel_rfl
theorem gG.good (k : Nat) : G 189 ⟨[(HN 3), (HN 5)], [HB], fun x => gG x.1 x.2.1⟩ := f0 (cf (am.good k) (cf (dn.good k) (cc (gp.good k) (cc (gj.good k) cn)))) [] [(1, [(4, .bool)])] Tryz.func189 (by kernel_rfl) fun x => by kernel_rfl
theorem api_Slot_267.good (k : Nat) : G 267 ⟨[(HL (.nm 7)), (.hole (.fn (.pair (.nm 7) .unit) .bool))], [HI], fun x => api_Slot_267 x.1 x.2.1⟩ := by
 have c := cn
 have l := ln c Tryz.f267 [] (by kernel_rfl)
 have l := lc c l [] 0 ⟨[0, 1, 7, 8], [(HL (.nm 7)), (.hole (.fn (.pair (.nm 7) .unit) .bool)), HI, HI]⟩ [(.exit 0, ⟨[], []⟩), (.ret, ⟨[4], [HI]⟩)] (fun n x => api_Slot_267.l0 x.1 x.2.1 x.2.2.1 n x.2.2.2.1) (fun x => (Int.toNat x.2.2.1 + 1)) (fun x => by kernel_rfl) (fun n x => by kernel_rfl) (by kernel_rfl)
 exact fo c l [] Tryz.func267 (by kernel_rfl) (fun x => by kernel_rfl)
theorem eO.good (k : Nat) : G 238 ⟨[(HL (.nm 7)), (.hole (.fn (.pair (.nm 7) .unit) .bool))], [HB], fun x => eO x.1 x.2.1⟩ := f0 (cf (api_Slot_267.good k) cn) [] [] Tryz.func238 (by kernel_rfl) fun x => by kernel_rfl
theorem fR.good (k : Nat) : GC 239 ⟨(.pair (.ptr (.nm 7)) .unit), (.pair (.nm 7) .unit), .bool, fun y x => fR x.1 y.1⟩ := c0 cn [(1, [(3, .bool)])] Tryz.func239 (by kernel_rfl) fun x y => by kernel_rfl
theorem im.good (k : Nat) : G 190 ⟨[(HN 3), (HN 13), HI], [HI], fun x => im k x.1 x.2.1 x.2.2.1⟩ := f0 (cf (types_Attrs.good k) (cf (eO.good k) (cc (fR.good k) cn))) [] [(6, [(77, .bool)]), (2, [(29, .bool)])] Tryz.func190 (by kernel_rfl) fun x => by kernel_rfl
theorem rule_right.good (k : Nat) : G 150 ⟨[(HN 3), (HN 13)], [HI], fun x => rule_right k x.1 x.2.1⟩ := by
 have c := cf (ct.good k) (cf (gG.good k) (cf (im.good k) cn))
 have l := ln c Tryz.f150 [] (by kernel_rfl)
 have l := lc c l [(6, [(22, .bool)])] 1 ⟨[2, 3, 46, 47], [(.boxh (.nm 3) (HN 3)), (.boxh (.nm 13) (HN 13)), HI, HI]⟩ [(.exit 1, ⟨[], []⟩), (.ret, ⟨[4], [HI]⟩)] (fun n x => rule_right.l1 k x.1 x.2.1 x.2.2.1 n x.2.2.2.1) (fun x => (Int.toNat x.2.2.1 + 1)) (fun x => by kernel_rfl) (fun n x => by kernel_rfl) (by kernel_rfl)
 exact fo c l [(6, [(22, .bool)])] Tryz.func150 (by kernel_rfl) (fun x => by kernel_rfl)
theorem subgraph_list.good (k : Nat) : G 279 ⟨[(HL (.int .i64)), HI], [HI], fun x => subgraph_list x.1 x.2.1⟩ := by
 have c := cn
 have l := ln c Tryz.f279 [] (by kernel_rfl)
 have l := lc c l [(6, [(31, .bool)]), (4, [(20, .bool)])] 0 ⟨[0, 1, 7, 8, 9], [(HL (.int .i64)), HI, (HL (.int .i64)), HI, HI]⟩ [(.exit 0, ⟨[], []⟩), (.ret, ⟨[4], [HI]⟩)] (fun n x => subgraph_list.l0 x.1 x.2.1 x.2.2.1 x.2.2.2.1 n x.2.2.2.2.1) (fun x => (Int.toNat x.2.2.2.1 + 1)) (fun x => by kernel_rfl) (fun n x => by kernel_rfl) (by kernel_rfl)
 exact fo c l [(6, [(31, .bool)]), (4, [(20, .bool)])] Tryz.func279 (by kernel_rfl) (fun x => by kernel_rfl)
theorem eS.good (k : Nat) : G 254 ⟨[HI], [HB], fun x => eS x.1⟩ := f0 cn [] [] Tryz.func254 (by kernel_rfl) fun x => by kernel_rfl
theorem gn.good (k : Nat) : G 206 ⟨[HI, HI], [HB], fun x => gn x.1 x.2.1⟩ := f0 (cf (eS.good k) cn) [] [(1, [(4, .bool)])] Tryz.func206 (by kernel_rfl) fun x => by kernel_rfl
theorem dt.good (k : Nat) : G 269 ⟨[HI], [HB], fun x => dt x.1⟩ := f0 cn [] [] Tryz.func269 (by kernel_rfl) fun x => by kernel_rfl
theorem slices_BinarySearch_lint.good (k : Nat) : G 241 ⟨[(HL (.int .i64)), HI], [HI, HB], fun x => slices_BinarySearch_lint k x.1 x.2.1⟩ := by
 have c := cf (gn.good k) (cf (dt.good k) cn)
 have l := ln c Tryz.f241 [] (by kernel_rfl)
 have l := lc c l [(8, [(4, (.int .i64)), (5, .bool)])] 0 ⟨[0, 1, 6, 7, 8], [(HL (.int .i64)), HI, HI, HI, HI]⟩ [(.exit 0, ⟨[0, 1, 6, 7], [(HL (.int .i64)), HI, HI, HI]⟩)] (fun n x => slices_BinarySearch_lint.l0 x.1 x.2.1 x.2.2.1 n x.2.2.2.1 x.2.2.2.2.1) (fun x => k) (fun x => by kernel_rfl) (fun n x => by kernel_rfl) (by kernel_rfl)
 exact fo c l [(8, [(4, (.int .i64)), (5, .bool)])] Tryz.func241 (by kernel_rfl) (fun x => by kernel_rfl)
end Go.Ev
end
section
open Go.Proofs
namespace Go.Ev
theorem fh.good (k : Nat) : G 280 ⟨[(HL (.int .i64)), HI], [HB], fun x => fh k x.1 x.2.1⟩ := f0 (cf (slices_BinarySearch_lint.good k) cn) [] [] Tryz.func280 (by kernel_rfl) fun x => by kernel_rfl
theorem subgraph_part.good (k : Nat) : G 268 ⟨[(HN 5), (HN 10)], [HI], fun x => subgraph_part k x.1 x.2.1⟩ := by
 have c := cf (subgraph_list.good k) (cf (fh.good k) cn)
 have l := ln c Tryz.f268 [] (by kernel_rfl)
 have l := lc c l [(10, [(55, .bool)])] 0 ⟨[2, 3, 28, 29, 30], [(.boxh (.nm 5) (HN 5)), (.boxh (.nm 10) (HN 10)), (HL (.int .i64)), HI, HI]⟩ [(.exit 0, ⟨[], []⟩), (.ret, ⟨[4], [HI]⟩)] (fun n x => subgraph_part.l0 k x.1 x.2.1 x.2.2.1 x.2.2.2.1 n x.2.2.2.2.1) (fun x => (Int.toNat x.2.2.2.1 + 1)) (fun x => by kernel_rfl) (fun n x => by kernel_rfl) (by kernel_rfl)
 exact fo c l [(10, [(55, .bool)])] Tryz.func268 (by kernel_rfl) (fun x => by kernel_rfl)
theorem eI.good (k : Nat) : G 240 ⟨[(HN 5), (HN 10)], [HI], fun x => eI k x.1 x.2.1⟩ := f0 (cf (ct.good k) (cf (subgraph_part.good k) cn)) [] [] Tryz.func240 (by kernel_rfl) fun x => by kernel_rfl
theorem subgraph_Extract.good (k : Nat) : G 191 ⟨[(HN 5), (HN 10)], [(.aggh 5 [RI, (RN 4)]), (.aggh 11 [RI, RI]), HI], fun x => subgraph_Extract k x.1 x.2.1⟩ := by
 have c := cf (lib21.good k) (cf (eI.good k) (cf (slices_BinarySearch_lint.good k) cn))
 have l := ln c Tryz.f191 [] (by kernel_rfl)
 have l := lc c l [] 0 ⟨[2, 3, 4, 5, 8, 23, 24, 25], [(.boxh (.nm 5) (HN 5)), (.boxh (.nm 10) (HN 10)), (.boxh (.nm 5) (.aggh 5 [RI, (RN 4)])), (.boxh (.nm 11) (.aggh 11 [RI, RI])), (.boxh (.nm 5) (.aggh 5 [RI, (RN 4)])), (HL (.int .i64)), HI, HI]⟩ [(.exit 0, ⟨[2, 3, 4, 5, 8], [(.boxh (.nm 5) (HN 5)), (.boxh (.nm 10) (HN 10)), (.boxh (.nm 5) (.aggh 5 [RI, (RN 4)])), (.boxh (.nm 11) (.aggh 11 [RI, RI])), (.boxh (.nm 5) (.aggh 5 [RI, (RN 4)]))]⟩)] (fun n x => subgraph_Extract.l0 x.1 x.2.1 x.2.2.1.1 x.2.2.1.2.1 x.2.2.2.1.1 x.2.2.2.1.2.1 x.2.2.2.2.1.2.1 x.2.2.2.2.2.1 x.2.2.2.2.2.2.1 n x.2.2.2.2.1.1 x.2.2.2.2.2.2.2.1) (fun x => (Int.toNat x.2.2.2.2.2.2.1 + 1)) (fun x => by kernel_rfl) (fun n x => by kernel_rfl) (by kernel_rfl)
 have l := lc c l [] 2 ⟨[2, 3, 4, 5, 8, 41, 42, 43], [(.boxh (.nm 5) (HN 5)), (.boxh (.nm 10) (HN 10)), (.boxh (.nm 5) (.aggh 5 [RI, (RN 4)])), (.boxh (.nm 11) (.aggh 11 [RI, RI])), (.boxh (.nm 5) (.aggh 5 [RI, (RN 4)])), (HL (.int .i64)), HI, HI]⟩ [(.exit 2, ⟨[3, 4, 5, 8], [(.boxh (.nm 10) (HN 10)), (.boxh (.nm 5) (.aggh 5 [RI, (RN 4)])), (.boxh (.nm 11) (.aggh 11 [RI, RI])), (.boxh (.nm 5) (.aggh 5 [RI, (RN 4)]))]⟩)] (fun n x => subgraph_Extract.l2 k x.1 x.2.1 x.2.2.1.1 x.2.2.1.2.1 x.2.2.2.1.1 x.2.2.2.1.2.1 x.2.2.2.2.1.1 x.2.2.2.2.2.1 x.2.2.2.2.2.2.1 n x.2.2.2.2.1.2.1 x.2.2.2.2.2.2.2.1) (fun x => (Int.toNat x.2.2.2.2.2.2.1 + 1)) (fun x => by kernel_rfl) (fun n x => by kernel_rfl) (by kernel_rfl)
 exact fo c l [] Tryz.func191 (by kernel_rfl) (fun x => by kernel_rfl)
theorem morphism_Valid.good (k : Nat) : G 192 ⟨[(HN 5), (HN 5), (HN 11)], [HI], fun x => morphism_Valid x.1 x.2.1 x.2.2.1⟩ := by
 have c := cf (ct.good k) cn
 have l := ln c Tryz.f192 [] (by kernel_rfl)
 have l := lc c l [(25, [(121, .bool)]), (20, [(86, .bool)]), (12, [(57, .bool)]), (7, [(40, .bool)])] 0 ⟨[3, 4, 5, 42, 43, 44], [(.boxh (.nm 5) (HN 5)), (.boxh (.nm 5) (HN 5)), (.boxh (.nm 11) (HN 11)), (HL (.int .i64)), HI, HI]⟩ [(.exit 0, ⟨[3, 4, 5], [(.boxh (.nm 5) (HN 5)), (.boxh (.nm 5) (HN 5)), (.boxh (.nm 11) (HN 11))]⟩), (.ret, ⟨[6], [HI]⟩)] (fun n x => morphism_Valid.l0 x.1 x.2.1 x.2.2.1 x.2.2.2.1 x.2.2.2.2.1 n x.2.2.2.2.2.1) (fun x => (Int.toNat x.2.2.2.2.1 + 1)) (fun x => by kernel_rfl) (fun n x => by kernel_rfl) (by kernel_rfl)
 have l := lc c l [(25, [(121, .bool)]), (20, [(86, .bool)]), (12, [(57, .bool)]), (7, [(40, .bool)])] 2 ⟨[3, 4, 5, 71, 72, 73], [(.boxh (.nm 5) (HN 5)), (.boxh (.nm 5) (HN 5)), (.boxh (.nm 11) (HN 11)), (HL (.int .i64)), HI, HI]⟩ [(.exit 2, ⟨[], []⟩), (.ret, ⟨[6], [HI]⟩)] (fun n x => morphism_Valid.l2 x.1 x.2.1 x.2.2.1 x.2.2.2.1 x.2.2.2.2.1 n x.2.2.2.2.2.1) (fun x => (Int.toNat x.2.2.2.2.1 + 1)) (fun x => by kernel_rfl) (fun n x => by kernel_rfl) (by kernel_rfl)
 exact fo c l [(25, [(121, .bool)]), (20, [(86, .bool)]), (12, [(57, .bool)]), (7, [(40, .bool)])] Tryz.func192 (by kernel_rfl) (fun x => by kernel_rfl)
theorem slices_Compact_lint.good (k : Nat) : G 121 ⟨[RI], [RI, (.part 0)], fun x => slices_Compact_lint k x.1⟩ := by
 have c := cn
 have l := ln c Tryz.f121 [0] (by kernel_rfl)
 have l := lc c l [] 2 ⟨[0, 3, 4, 5], [RI, HI, (.part 0), HI]⟩ [(.exit 2, ⟨[0, 3], [RI, HI]⟩)] (fun n x => slices_Compact_lint.l2 n x.1 x.2.1 x.2.2.1.1 x.2.2.1.2 x.2.2.2.1) (fun x => k) (fun x => by kernel_rfl) (fun n x => by kernel_rfl) (by kernel_rfl)
 have l := lc c l [] 0 ⟨[0, 3], [RI, HI]⟩ [(.exit 0, ⟨[0], [RI]⟩), (.ret, ⟨[0, 2], [RI, (.part 0)]⟩)] (fun n x => slices_Compact_lint.l0 k x.1 n x.2.1) (fun x => k) (fun x => by kernel_rfl) (fun n x => by kernel_rfl) (by kernel_rfl)
 exact fo c l [] Tryz.func121 (by kernel_rfl) (fun x => by kernel_rfl)
theorem d9.good (k : Nat) : G 242 ⟨[(HL (.int .i64))], [HI], fun x => d9 k x.1⟩ := f0 (cf (lib21.good k) (cf (lib120.good k) (cf (slices_Compact_lint.good k) cn))) [] [] Tryz.func242 (by kernel_rfl) fun x => by kernel_rfl
theorem bN.good (k : Nat) : G 193 ⟨[(HN 5), (HN 5), (HN 11)], [HB], fun x => bN k x.1 x.2.1 x.2.2.1⟩ := f0 (cf (morphism_Valid.good k) (cf (d9.good k) cn)) [] [(1, [(6, .bool)])] Tryz.func193 (by kernel_rfl) fun x => by kernel_rfl
theorem ip.good (k : Nat) : G 151 ⟨[(HN 13)], [HI], fun x => ip k x.1⟩ := f0 (cf (subgraph_Extract.good k) (cf (morphism_Valid.good k) (cf (bN.good k) cn))) [] [] Tryz.func151 (by kernel_rfl) fun x => by kernel_rfl
theorem slices_Reverse_lint.good (k : Nat) : G 281 ⟨[RI], [RI], fun x => slices_Reverse_lint k x.1⟩ := by
 have c := cn
 have l := ln c Tryz.f281 [0] (by kernel_rfl)
 have l := lc c l [] 0 ⟨[0, 2, 3], [RI, HI, HI]⟩ [(.exit 0, ⟨[0], [RI]⟩)] (fun n x => slices_Reverse_lint.l0 n x.1 x.2.1 x.2.2.1) (fun x => k) (fun x => by kernel_rfl) (fun n x => by kernel_rfl) (by kernel_rfl)
 exact fo c l [] Tryz.func281 (by kernel_rfl) (fun x => by kernel_rfl)
theorem types_line.good (k : Nat) : G 271 ⟨[(HN 3), HI], [RI], fun x => types_line k x.1 x.2.1⟩ := by
 have c := cf (slices_Reverse_lint.good k) cn
 have l := ln c Tryz.f271 [] (by kernel_rfl)
 have l := lc c l [] 0 ⟨[1, 2, 5], [HI, (.boxh (.nm 3) (HN 3)), RI]⟩ [(.exit 0, ⟨[5], [RI]⟩)] (fun n x => types_line.l0 x.2.1 n x.1 x.2.2.1) (fun x => k) (fun x => by kernel_rfl) (fun n x => by kernel_rfl) (by kernel_rfl)
 exact fo c l [] Tryz.func271 (by kernel_rfl) (fun x => by kernel_rfl)
theorem iF.good (k : Nat) : G 244 ⟨[(HN 3), HI, HI], [HB], fun x => iF k x.1 x.2.1 x.2.2.1⟩ := f0 (cf (bA.good k) (cf (types_line.good k) cn)) [] [] Tryz.func244 (by kernel_rfl) fun x => by kernel_rfl
theorem gH.good (k : Nat) : G 196 ⟨[(HN 3), HI, HI, HI], [HB], fun x => gH k x.1 x.2.1 x.2.2.1 x.2.2.2.1⟩ := f0 (cf (eK.good k) (cf (iF.good k) cn)) [] [(3, [(8, .bool)]), (1, [(25, .bool)])] Tryz.func196 (by kernel_rfl) fun x => by kernel_rfl
theorem ez.good (k : Nat) : GC 194 ⟨(.pair (.ptr (.nm 3)) (.pair (.ptr (.nm 5)) .unit)), (.pair (.int .i64) .unit), .bool, fun y x => ez x.1 y.1 y.2.1⟩ := c0 cn [] Tryz.func194 (by kernel_rfl) fun x y => by kernel_rfl
theorem ev.good (k : Nat) : GC 195 ⟨(.pair (.ptr (.nm 5)) (.pair (.ptr (.nm 3)) .unit)), (.pair (.int .i64) .unit), .bool, fun y x => ev k x.1 y.1 y.2.1⟩ := c0 (cf (gH.good k) cn) [] Tryz.func195 (by kernel_rfl) fun x y => by kernel_rfl
theorem fi.good (k : Nat) : G 152 ⟨[(HN 3), (HN 5), (HL (.int .i64)), (HL (.int .i64))], [HB], fun x => fi k x.1 x.2.1 x.2.2.1 x.2.2.2.1⟩ := f0 (cf (am.good k) (cc (ez.good k) (cc (ev.good k) cn))) [] [(1, [(8, .bool)])] Tryz.func152 (by kernel_rfl) fun x => by kernel_rfl
theorem cE.good (k : Nat) : G 272 ⟨[(HN 12)], [HB], fun x => cE x.1⟩ := f0 cn [] [(2, [(2, .bool)])] Tryz.func272 (by kernel_rfl) fun x => by kernel_rfl
theorem api_Condition_282.good (k : Nat) : G 282 ⟨[(HL (.nm 12)), (.hole (.fn (.pair (.nm 12) .unit) .bool))], [HI], fun x => api_Condition_282 x.1 x.2.1⟩ := by
 have c := cn
 have l := ln c Tryz.f282 [] (by kernel_rfl)
 have l := lc c l [] 0 ⟨[0, 1, 7, 8], [(HL (.nm 12)), (.hole (.fn (.pair (.nm 12) .unit) .bool)), HI, HI]⟩ [(.exit 0, ⟨[], []⟩), (.ret, ⟨[4], [HI]⟩)] (fun n x => api_Condition_282.l0 x.1 x.2.1 x.2.2.1 n x.2.2.2.1) (fun x => (Int.toNat x.2.2.1 + 1)) (fun x => by kernel_rfl) (fun n x => by kernel_rfl) (by kernel_rfl)
 exact fo c l [] Tryz.func282 (by kernel_rfl) (fun x => by kernel_rfl)
theorem bz.good (k : Nat) : G 273 ⟨[(HL (.nm 12)), (.hole (.fn (.pair (.nm 12) .unit) .bool))], [HB], fun x => bz x.1 x.2.1⟩ := f0 (cf (api_Condition_282.good k) cn) [] [] Tryz.func273 (by kernel_rfl) fun x => by kernel_rfl
theorem aG.good (k : Nat) (rec_ : af → Option (Bool × Unit)) (h : G 245 ⟨[(HN 12)], [HB], fun x => rec_ x.1⟩) : GC 274 ⟨.unit, (.pair (.nm 12) .unit), .bool, fun y x => aG rec_ x.1⟩ := c0 (cf (h) cn) [] Tryz.func274 (by kernel_rfl) fun x y => by kernel_rfl
theorem aq.good : ∀ k : Nat, G 245 ⟨[(HN 12)], [HB], fun x => aq k x.1⟩
 | 0 => dB Tryz.func245 (c := eF Tryz.f245) (by kernel_rfl) (by kernel_rfl) fun _ => rfl
 | k + 1 => by
  have h := aq.good k
  exact f0 (cf (cE.good k) (cf (bz.good k) (cc (aG.good k (aq k) h) cn))) [] [(13, [(2, .bool)]), (5, [(4, .bool)]), (7, [(4, .bool)]), (10, [(4, .bool)])] Tryz.func245 (by kernel_rfl) fun x => by kernel_rfl
theorem condition_measure.good : ∀ k : Nat, G 246 ⟨[(HN 12)], [HI, HI], fun x => condition_measure k x.1⟩
 | 0 => dB Tryz.func246 (c := eF Tryz.f246) (by kernel_rfl) (by kernel_rfl) fun _ => rfl
 | k + 1 => by
  have h := condition_measure.good k
  have c := cf (h) cn
  have l := ln c Tryz.f246 [] (by kernel_rfl)
  have l := lc c l [] 0 ⟨[1, 4, 5, 11, 12, 13], [(.boxh (.nm 12) (HN 12)), HI, HI, (HL (.nm 12)), HI, HI]⟩ [(.exit 0, ⟨[1, 4, 5], [(.boxh (.nm 12) (HN 12)), HI, HI]⟩)] (fun n x => condition_measure.l0 (condition_measure k) x.1 x.2.2.2.1 x.2.2.2.2.1 n x.2.1 x.2.2.1 x.2.2.2.2.2.1) (fun x => (Int.toNat x.2.2.2.2.1 + 1)) (fun x => by kernel_rfl) (fun n x => by kernel_rfl) (by kernel_rfl)
  exact fo c l [] Tryz.func246 (by kernel_rfl) (fun x => by kernel_rfl)
theorem dG.good (k : Nat) : G 197 ⟨[(HN 12)], [HI], fun x => dG k x.1⟩ := f0 (cf (aq.good k) (cf (condition_measure.good k) cn)) [] [(4, [(18, .bool)])] Tryz.func197 (by kernel_rfl) fun x => by kernel_rfl
theorem dg.good (k : Nat) : GC 275 ⟨(.pair (.ptr (.int .i64)) .unit), (.pair (.nm 7) .unit), .bool, fun y x => dg x.1 y.1⟩ := c0 cn [] Tryz.func275 (by kernel_rfl) fun x y => by kernel_rfl
theorem condition_pattern.good (k : Nat) : G 247 ⟨[(HN 3), (HN 9), HI], [HI], fun x => condition_pattern k x.1 x.2.1 x.2.2.1⟩ := by
 have c := cf (attribute_Valid.good k) (cf (eO.good k) (cc (dg.good k) cn))
 have l := ln c Tryz.f247 [] (by kernel_rfl)
 have l := lc c l [] 0 ⟨[4, 7, 8], [(.boxh (.nm 9) (HN 9)), HI, (.boxh (.int .i64) HI)]⟩ [(.exit 0, ⟨[], []⟩), (.ret, ⟨[6], [HI]⟩)] (fun n x => condition_pattern.l0 x.1 x.2.1 n x.2.2.1) (fun x => k) (fun x => by kernel_rfl) (fun n x => by kernel_rfl) (by kernel_rfl)
 exact fo c l [] Tryz.func247 (by kernel_rfl) (fun x => by kernel_rfl)
theorem condition_inside.good : ∀ k : Nat, G 198 ⟨[(HN 3), (HN 9), (HN 12)], [HI], fun x => condition_inside k x.1 x.2.1 x.2.2.1⟩
 | 0 => dB Tryz.func198 (c := eF Tryz.f198) (by kernel_rfl) (by kernel_rfl) fun _ => rfl
 | k + 1 => by
  have h := condition_inside.good k
  have c := cf (morphism_Valid.good k) (cf (bN.good k) (cf (h) (cf (condition_pattern.good k) cn)))
  have l := ln c Tryz.f198 [] (by kernel_rfl)
  have l := lc c l [] 0 ⟨[3, 4, 51, 52, 53], [(.boxh (.nm 3) (HN 3)), (.boxh (.nm 9) (HN 9)), (HL (.nm 12)), HI, HI]⟩ [(.exit 0, ⟨[], []⟩), (.ret, ⟨[6], [HI]⟩)] (fun n x => condition_inside.l0 (condition_inside k) x.1 x.2.1 x.2.2.1 x.2.2.2.1 n x.2.2.2.2.1) (fun x => (Int.toNat x.2.2.2.1 + 1)) (fun x => by kernel_rfl) (fun n x => by kernel_rfl) (by kernel_rfl)
  exact fo c l [] Tryz.func198 (by kernel_rfl) (fun x => by kernel_rfl)
theorem dF.good (k : Nat) : G 153 ⟨[(HN 3), (HN 9), (HN 12)], [HI], fun x => dF k x.1 x.2.1 x.2.2.1⟩ := f0 (cf (attribute_Valid.good k) (cf (dG.good k) (cf (condition_inside.good k) cn))) [] [] Tryz.func153 (by kernel_rfl) fun x => by kernel_rfl
theorem fc.good (k : Nat) : G 116 ⟨[(HN 3), (HN 13)], [HI], fun x => fc k x.1 x.2.1⟩ := f0 (cf (types_Valid.good k) (cf (bJ.good k) (cf (dK.good k) (cf (attribute_Valid.good k) (cf (rule_right.good k) (cf (ip.good k) (cf (fi.good k) (cf (dF.good k) cn)))))))) [] [] Tryz.func116 (by kernel_rfl) fun x => by kernel_rfl
theorem fq.good (k : Nat) : G 117 ⟨[(HN 13)], [RI, RI], fun x => fq x.1⟩ := f0 (cf (rule_others.good k) cn) [] [] Tryz.func117 (by kernel_rfl) fun x => by kernel_rfl
theorem fm.good (k : Nat) : G 84 ⟨[(HN 3), (HN 13)], [RI, RI, HI], fun x => fm k x.1 x.2.1⟩ := f0 (cf (fc.good k) (cf (fq.good k) cn)) [] [] Tryz.func84 (by kernel_rfl) fun x => by kernel_rfl
theorem fu.good (k : Nat) : G 87 ⟨[(HN 3), (HN 13)], [RI, RI, HI], fun x => fu k x.1 x.2.1⟩ := f0 (cf (fc.good k) (cf (dK.good k) cn)) [] [] Tryz.func87 (by kernel_rfl) fun x => by kernel_rfl
theorem layering_places.good (k : Nat) : G 88 ⟨[(HN 3), (HN 5), (HL (.int .i64)), (HL (.int .i64))], [(HL (.int .i64))], fun x => layering_places k x.1 x.2.1 x.2.2.1 x.2.2.2.1⟩ := by
 have c := cf (lib120.good k) (cf (slices_Compact_lint.good k) cn)
 have l := ln c Tryz.f88 [] (by kernel_rfl)
 have l := lc c l [] 0 ⟨[3, 4, 5, 9, 14, 15, 16], [(HL (.int .i64)), (.boxh (.nm 3) (HN 3)), (.boxh (.nm 5) (HN 5)), RI, (HL (.int .i64)), HI, HI]⟩ [(.exit 0, ⟨[3, 4, 5, 9], [(HL (.int .i64)), (.boxh (.nm 3) (HN 3)), (.boxh (.nm 5) (HN 5)), RI]⟩)] (fun n x => layering_places.l0 x.1 x.2.1 x.2.2.1 x.2.2.2.2.1 x.2.2.2.2.2.1 n x.2.2.2.1 x.2.2.2.2.2.2.1) (fun x => (Int.toNat x.2.2.2.2.2.1 + 1)) (fun x => by kernel_rfl) (fun n x => by kernel_rfl) (by kernel_rfl)
 have l := lc c l [] 2 ⟨[4, 5, 9, 29, 30, 31], [(.boxh (.nm 3) (HN 3)), (.boxh (.nm 5) (HN 5)), RI, (HL (.int .i64)), HI, HI]⟩ [(.exit 2, ⟨[9], [RI]⟩)] (fun n x => layering_places.l2 x.1 x.2.1 x.2.2.2.1 x.2.2.2.2.1 n x.2.2.1 x.2.2.2.2.2.1) (fun x => (Int.toNat x.2.2.2.2.1 + 1)) (fun x => by kernel_rfl) (fun n x => by kernel_rfl) (by kernel_rfl)
 exact fo c l [] Tryz.func88 (by kernel_rfl) (fun x => by kernel_rfl)
theorem eW.good (k : Nat) : GC 86 ⟨(.pair (.ptr (.nm 13)) (.pair (.ptr (.int .i64)) .unit)), (.pair (.nm 1) .unit), .bool, fun y x => eW x.1 y.1 y.2.1⟩ := c0 cn [] Tryz.func86 (by kernel_rfl) fun x y => by kernel_rfl
theorem layering_of.good (k : Nat) : G 59 ⟨[(HN 3), (HN 13)], [(HN 22), HI], fun x => layering_of k x.1 x.2.1⟩ := by
 have c := cf (fm.good k) (cf (da.good k) (cc (eW.good k) (cf (fu.good k) (cf (layering_places.good k) cn))))
 have l := ln c Tryz.f59 [] (by kernel_rfl)
 have l := lc c l [] 0 ⟨[2, 3, 4, 6, 7, 25, 26, 27], [(.boxh (.nm 3) (HN 3)), (.boxh (.nm 13) (HN 13)), (.boxh (.nm 22) (.aggh 22 [RI, RI])), RI, RI, (.same 5), HI, HI]⟩ [(.exit 0, ⟨[2, 3, 4, 6, 7], [(.boxh (.nm 3) (HN 3)), (.boxh (.nm 13) (HN 13)), (.boxh (.nm 22) (.aggh 22 [RI, RI])), RI, RI]⟩), (.ret, ⟨[4, 5], [(.boxh (.nm 22) (.aggh 22 [RI, RI])), HI]⟩)] (fun n x => layering_of.l0 x.1 x.2.1 x.2.2.1.1 x.2.2.1.2.1 x.2.2.2.1 x.2.2.2.2.1 x.2.2.2.2.2.2.1 n x.2.2.2.2.2.2.2.1) (fun x => (Int.toNat x.2.2.2.2.2.2.1 + 1)) (fun x => by kernel_rfl) (fun n x => by kernel_rfl) (by kernel_rfl)
 exact fo c l [] Tryz.func59 (by kernel_rfl) (fun x => by kernel_rfl)
theorem layering_given.good (k : Nat) : G 29 ⟨[(HN 3), (HL (.nm 13))], [(RN 22), HI], fun x => layering_given k x.1 x.2.1⟩ := by
 have c := cf (types_Valid.good k) (cf (layering_of.good k) cn)
 have l := ln c Tryz.f29 [] (by kernel_rfl)
 have l := lc c l [] 0 ⟨[2, 8, 24, 25, 26], [(.boxh (.nm 3) (HN 3)), (RN 22), (HL (.nm 13)), HI, HI]⟩ [(.exit 0, ⟨[8], [(RN 22)]⟩), (.ret, ⟨[4, 5], [(RN 22), HI]⟩)] (fun n x => layering_given.l0 k x.1 x.2.2.1 x.2.2.2.1 n x.2.1 x.2.2.2.2.1) (fun x => (Int.toNat x.2.2.2.1 + 1)) (fun x => by kernel_rfl) (fun n x => by kernel_rfl) (by kernel_rfl)
 exact fo c l [] Tryz.func29 (by kernel_rfl) (fun x => by kernel_rfl)
theorem layering_effect_30.good (k : Nat) : G 30 ⟨[(HL (.nm 22)), (.hole (.fn (.pair (.nm 22) .unit) .bool))], [HI], fun x => layering_effect_30 x.1 x.2.1⟩ := by
 have c := cn
 have l := ln c Tryz.f30 [] (by kernel_rfl)
 have l := lc c l [] 0 ⟨[0, 1, 7, 8], [(HL (.nm 22)), (.hole (.fn (.pair (.nm 22) .unit) .bool)), HI, HI]⟩ [(.exit 0, ⟨[], []⟩), (.ret, ⟨[4], [HI]⟩)] (fun n x => layering_effect_30.l0 x.1 x.2.1 x.2.2.1 n x.2.2.2.1) (fun x => (Int.toNat x.2.2.1 + 1)) (fun x => by kernel_rfl) (fun n x => by kernel_rfl) (by kernel_rfl)
 exact fo c l [] Tryz.func30 (by kernel_rfl) (fun x => by kernel_rfl)
theorem kH.good (k : Nat) : G 157 ⟨[(.hole (.int .u32)), (.hole (.int .u32))], [(.hole (.int .u32)), (.hole (.int .u32))], fun x => kH x.1 x.2.1⟩ := f0 cn [] [] Tryz.func157 (by kernel_rfl) fun x => by kernel_rfl
theorem jC.good (k : Nat) : G 158 ⟨[(.hole (.int .u64)), (.hole (.int .u64))], [(.hole (.int .u64)), (.hole (.int .u64))], fun x => jC x.1 x.2.1⟩ := f0 cn [] [] Tryz.func158 (by kernel_rfl) fun x => by kernel_rfl
theorem jX.good (k : Nat) : G 122 ⟨[(.hole (.int .u64)), (.hole (.int .u64))], [(.hole (.int .u64)), (.hole (.int .u64))], fun x => jX x.1 x.2.1⟩ := f0 (cf (kH.good k) (cf (jC.good k) cn)) [] [] Tryz.func122 (by kernel_rfl) fun x => by kernel_rfl
theorem slices_Repeat_lint.good (k : Nat) : G 89 ⟨[(HL (.int .i64)), HI], [RI], fun x => slices_Repeat_lint k x.1 x.2.1⟩ := by
 have c := cf (jX.good k) cn
 have l := ln c Tryz.f89 [] (by kernel_rfl)
 have l := lc c l [(4, [(26, .bool)])] 0 ⟨[7, 8], [RI, HI]⟩ [(.exit 0, ⟨[7], [RI]⟩)] (fun n x => slices_Repeat_lint.l0 n x.1 x.2.1) (fun x => k) (fun x => by kernel_rfl) (fun n x => by kernel_rfl) (by kernel_rfl)
 exact fo c l [(4, [(26, .bool)])] Tryz.func89 (by kernel_rfl) (fun x => by kernel_rfl)
theorem layering_distances.good (k : Nat) : G 60 ⟨[(HL (.nm 14)), HI, HI], [RI], fun x => layering_distances k x.1 x.2.1 x.2.2.1⟩ := by
 have c := cf (slices_Repeat_lint.good k) cn
 have l := ln c Tryz.f60 [] (by kernel_rfl)
 have l := lc c l [(9, [(43, .bool)])] 2 ⟨[0, 7, 8, 24, 25, 26], [(HL (.nm 14)), RI, RI, (HL (.nm 14)), HI, HI]⟩ [(.exit 2, ⟨[0, 7, 8], [(HL (.nm 14)), RI, RI]⟩)] (fun n x => layering_distances.l2 x.1 x.2.2.2.1 x.2.2.2.2.1 n x.2.1 x.2.2.1 x.2.2.2.2.2.1) (fun x => (Int.toNat x.2.2.2.2.1 + 1)) (fun x => by kernel_rfl) (fun n x => by kernel_rfl) (by kernel_rfl)
 have l := lc c l [(9, [(43, .bool)])] 0 ⟨[0, 7, 8], [(HL (.nm 14)), RI, RI]⟩ [(.exit 0, ⟨[7], [RI]⟩)] (fun n x => layering_distances.l0 n x.1 x.2.1 x.2.2.1) (fun x => k) (fun x => by kernel_rfl) (fun n x => by kernel_rfl) (by kernel_rfl)
 exact fo c l [(9, [(43, .bool)])] Tryz.func60 (by kernel_rfl) (fun x => by kernel_rfl)
theorem api_Demand_61.good (k : Nat) : G 61 ⟨[(HL (.nm 14)), (.hole (.fn (.pair (.nm 14) .unit) .bool))], [HI], fun x => api_Demand_61 x.1 x.2.1⟩ := by
 have c := cn
 have l := ln c Tryz.f61 [] (by kernel_rfl)
 have l := lc c l [] 0 ⟨[0, 1, 7, 8], [(HL (.nm 14)), (.hole (.fn (.pair (.nm 14) .unit) .bool)), HI, HI]⟩ [(.exit 0, ⟨[], []⟩), (.ret, ⟨[4], [HI]⟩)] (fun n x => api_Demand_61.l0 x.1 x.2.1 x.2.2.1 n x.2.2.2.1) (fun x => (Int.toNat x.2.2.1 + 1)) (fun x => by kernel_rfl) (fun n x => by kernel_rfl) (by kernel_rfl)
 exact fo c l [] Tryz.func61 (by kernel_rfl) (fun x => by kernel_rfl)
theorem cH.good (k : Nat) : GC 62 ⟨(.pair (.ptr (.int .i64)) (.pair (.ptr (.slice (.int .i64))) .unit)), (.pair (.nm 14) .unit), .bool, fun y x => cH x.1 y.1 y.2.1⟩ := c0 cn [(1, [(4, .bool)])] Tryz.func62 (by kernel_rfl) fun x y => by kernel_rfl
theorem layering_circle.good (k : Nat) : G 32 ⟨[(HL (.nm 14)), HI], [(RN 14)], fun x => layering_circle k x.1 x.2.1⟩ := by
 have c := cf (layering_distances.good k) (cf (api_Demand_61.good k) (cc (cH.good k) cn))
 have l := ln c Tryz.f32 [] (by kernel_rfl)
 have l := lc c l [(6, [(43, .bool)])] 2 ⟨[0, 1, 5, 7, 8, 9, 11, 12, 13], [(HL (.nm 14)), HI, (RN 14), (.boxh (.nm 14) (HN 14)), (.boxh (.slice (.int .i64)) RI), (.boxh (.int .i64) HI), (HL (.nm 14)), HI, HI]⟩ [(.exit 2, ⟨[0, 1, 5, 11, 12, 13], [(HL (.nm 14)), HI, (RN 14), (HL (.nm 14)), HI, HI]⟩)] (fun n x => layering_circle.l2 x.1 x.2.1 x.2.2.2.1 x.2.2.2.2.1 x.2.2.2.2.2.2.1 x.2.2.2.2.2.2.2.1 x.2.2.2.2.2.2.2.2.1 n x.2.2.1 x.2.2.2.2.2.1) (fun x => k) (fun x => by kernel_rfl) (fun n x => by kernel_rfl) (by kernel_rfl)
 have l := lc c l [(6, [(43, .bool)])] 0 ⟨[0, 1, 5, 11, 12, 13], [(HL (.nm 14)), HI, (RN 14), (HL (.nm 14)), HI, HI]⟩ [(.exit 0, ⟨[5], [(RN 14)]⟩)] (fun n x => layering_circle.l0 k n x.1 x.2.1 x.2.2.1 x.2.2.2.1 x.2.2.2.2.1 x.2.2.2.2.2.1) (fun x => k) (fun x => by kernel_rfl) (fun n x => by kernel_rfl) (by kernel_rfl)
 exact fo c l [(6, [(43, .bool)])] Tryz.func32 (by kernel_rfl) (fun x => by kernel_rfl)
theorem layering_demands.good (k : Nat) : G 33 ⟨[(HL (.nm 22))], [(RN 14)], fun x => layering_demands k x.1⟩ := by
 have c := cn
 have l := ln c Tryz.f33 [] (by kernel_rfl)
 have l := lc c l [] 4 ⟨[3, 4, 5, 7, 10, 11, 12, 18, 19, 20, 25, 26, 27], [(RN 14), HI, (.boxh (.nm 22) (HN 22)), HI, (HL (.nm 22)), HI, HI, (HL (.int .i64)), HI, HI, (HL (.int .i64)), HI, HI]⟩ [(.exit 4, ⟨[3, 4, 5, 10, 11, 12, 18, 19, 20], [(RN 14), HI, (.boxh (.nm 22) (HN 22)), (HL (.nm 22)), HI, HI, (HL (.int .i64)), HI, HI]⟩)] (fun n x => layering_demands.l4 x.2.1 x.2.2.1 x.2.2.2.1 x.2.2.2.2.1 x.2.2.2.2.2.1 x.2.2.2.2.2.2.1 x.2.2.2.2.2.2.2.1 x.2.2.2.2.2.2.2.2.1 x.2.2.2.2.2.2.2.2.2.1 x.2.2.2.2.2.2.2.2.2.2.1 x.2.2.2.2.2.2.2.2.2.2.2.1 n x.1 x.2.2.2.2.2.2.2.2.2.2.2.2.1) (fun x => (Int.toNat x.2.2.2.2.2.2.2.2.2.2.2.1 + 1)) (fun x => by kernel_rfl) (fun n x => by kernel_rfl) (by kernel_rfl)
 have l := lc c l [] 2 ⟨[3, 4, 5, 10, 11, 12, 18, 19, 20], [(RN 14), HI, (.boxh (.nm 22) (HN 22)), (HL (.nm 22)), HI, HI, (HL (.int .i64)), HI, HI]⟩ [(.exit 2, ⟨[3, 10, 11, 12], [(RN 14), (HL (.nm 22)), HI, HI]⟩)] (fun n x => layering_demands.l2 n x.1 x.2.1 x.2.2.1 x.2.2.2.1 x.2.2.2.2.1 x.2.2.2.2.2.1 x.2.2.2.2.2.2.1 x.2.2.2.2.2.2.2.1 x.2.2.2.2.2.2.2.2.1) (fun x => k) (fun x => by kernel_rfl) (fun n x => by kernel_rfl) (by kernel_rfl)
 have l := lc c l [] 0 ⟨[3, 10, 11, 12], [(RN 14), (HL (.nm 22)), HI, HI]⟩ [(.exit 0, ⟨[3], [(RN 14)]⟩)] (fun n x => layering_demands.l0 k n x.1 x.2.1 x.2.2.1 x.2.2.2.1) (fun x => k) (fun x => by kernel_rfl) (fun n x => by kernel_rfl) (by kernel_rfl)
 exact fo c l [] Tryz.func33 (by kernel_rfl) (fun x => by kernel_rfl)
end Go.Ev
end
section
open Go.Proofs
namespace Go.Ev
theorem dM.good (k : Nat) : GC 31 ⟨.unit, (.pair (.nm 22) .unit), .bool, fun y x => dM x.1⟩ := c0 cn [] Tryz.func31 (by kernel_rfl) fun x y => by kernel_rfl
theorem cK.good (k : Nat) : G 10 ⟨[(HN 3), (HL (.nm 13))], [(RN 14), HI], fun x => cK k x.1 x.2.1⟩ := f0 (cf (layering_given.good k) (cf (layering_effect_30.good k) (cc (dM.good k) (cf (layering_circle.good k) (cf (layering_demands.good k) cn))))) [] [] Tryz.func10 (by kernel_rfl) fun x => by kernel_rfl
theorem api_Demand_13.good (k : Nat) : G 13 ⟨[(HL (.nm 14)), (HL (.nm 14))], [HB], fun x => api_Demand_13 x.1 x.2.1⟩ := by
 have c := cn
 have l := ln c Tryz.f13 [] (by kernel_rfl)
 have l := lc c l [] 0 ⟨[0, 1, 12, 13], [(HL (.nm 14)), (HL (.nm 14)), HI, HI]⟩ [(.exit 0, ⟨[], []⟩), (.ret, ⟨[4], [HB]⟩)] (fun n x => api_Demand_13.l0 x.1 x.2.1 x.2.2.1 n x.2.2.2.1) (fun x => (Int.toNat x.2.2.1 + 1)) (fun x => by kernel_rfl) (fun n x => by kernel_rfl) (by kernel_rfl)
 exact fo c l [] Tryz.func13 (by kernel_rfl) (fun x => by kernel_rfl)
theorem dz.good (k : Nat) : G 68 ⟨[(HL (.nm 22)), (.hole (.fn (.pair (.nm 22) .unit) .bool))], [HB], fun x => dz x.1 x.2.1⟩ := f0 (cf (layering_effect_30.good k) cn) [] [] Tryz.func68 (by kernel_rfl) fun x => by kernel_rfl
theorem eC.good (k : Nat) : GC 69 ⟨.unit, (.pair (.nm 22) .unit), .bool, fun y x => eC x.1⟩ := c0 cn [] Tryz.func69 (by kernel_rfl) fun x y => by kernel_rfl
theorem layering_least.good (k : Nat) : G 39 ⟨[(HL (.nm 22)), HI], [RI, RI, HB], fun x => layering_least k x.1 x.2.1⟩ := by
 have c := cf (dz.good k) (cc (eC.good k) cn)
 have l := ln c Tryz.f39 [] (by kernel_rfl)
 have l := lc c l [] 4 ⟨[0, 7, 8, 9, 10, 11, 24, 25, 26, 32, 33, 34], [(HL (.nm 22)), RI, RI, HB, HI, (.boxh (.nm 22) (HN 22)), (HL (.nm 22)), HI, HI, (HL (.int .i64)), HI, HI]⟩ [(.exit 4, ⟨[0, 7, 8, 9, 10, 11, 24, 25, 26], [(HL (.nm 22)), RI, RI, HB, HI, (.boxh (.nm 22) (HN 22)), (HL (.nm 22)), HI, HI]⟩)] (fun n x => layering_least.l4 x.1 x.2.2.1 x.2.2.2.2.1 x.2.2.2.2.2.1 x.2.2.2.2.2.2.1 x.2.2.2.2.2.2.2.1 x.2.2.2.2.2.2.2.2.1 x.2.2.2.2.2.2.2.2.2.1 x.2.2.2.2.2.2.2.2.2.2.1 n x.2.1 x.2.2.2.1 x.2.2.2.2.2.2.2.2.2.2.2.1) (fun x => (Int.toNat x.2.2.2.2.2.2.2.2.2.2.1 + 1)) (fun x => by kernel_rfl) (fun n x => by kernel_rfl) (by kernel_rfl)
 have l := lc c l [] 6 ⟨[0, 7, 8, 9, 10, 24, 25, 26, 56, 57, 58], [(HL (.nm 22)), RI, RI, HB, HI, (HL (.nm 22)), HI, HI, (HL (.int .i64)), HI, HI]⟩ [(.exit 6, ⟨[0, 7, 8, 9, 10, 24, 25, 26], [(HL (.nm 22)), RI, RI, HB, HI, (HL (.nm 22)), HI, HI]⟩)] (fun n x => layering_least.l6 x.1 x.2.1 x.2.2.2.2.1 x.2.2.2.2.2.1 x.2.2.2.2.2.2.1 x.2.2.2.2.2.2.2.1 x.2.2.2.2.2.2.2.2.1 x.2.2.2.2.2.2.2.2.2.1 n x.2.2.1 x.2.2.2.1 x.2.2.2.2.2.2.2.2.2.2.1) (fun x => (Int.toNat x.2.2.2.2.2.2.2.2.2.1 + 1)) (fun x => by kernel_rfl) (fun n x => by kernel_rfl) (by kernel_rfl)
 have l := lc c l [] 2 ⟨[0, 7, 8, 9, 24, 25, 26], [(HL (.nm 22)), RI, RI, HB, (HL (.nm 22)), HI, HI]⟩ [(.exit 2, ⟨[0, 7, 8, 9], [(HL (.nm 22)), RI, RI, HB]⟩), (.ret, ⟨[4, 5, 6], [RI, RI, HB]⟩)] (fun n x => layering_least.l2 n x.1 x.2.1 x.2.2.1 x.2.2.2.1 x.2.2.2.2.1 x.2.2.2.2.2.1 x.2.2.2.2.2.2.1) (fun x => k) (fun x => by kernel_rfl) (fun n x => by kernel_rfl) (by kernel_rfl)
 have l := lc c l [] 0 ⟨[0, 7, 8, 9], [(HL (.nm 22)), RI, RI, HB]⟩ [(.exit 0, ⟨[7, 8], [RI, RI]⟩), (.ret, ⟨[4, 5, 6], [RI, RI, HB]⟩)] (fun n x => layering_least.l0 k n x.1 x.2.1 x.2.2.1 x.2.2.2.1) (fun x => k) (fun x => by kernel_rfl) (fun n x => by kernel_rfl) (by kernel_rfl)
 exact fo c l [] Tryz.func39 (by kernel_rfl) (fun x => by kernel_rfl)
theorem cQ.good (k : Nat) : G 14 ⟨[(HN 3), (HL (.nm 13))], [(.aggh 15 [RI, (HL (.int .i64)), (HL (.int .i64))]), HI], fun x => cQ k x.1 x.2.1⟩ := f0 (cf (layering_given.good k) (cf (layering_least.good k) cn)) [] [] Tryz.func14 (by kernel_rfl) fun x => by kernel_rfl
theorem cV.good (k : Nat) : G 24 ⟨[], [(.aggh 3 [(RN 1), (RN 2)])], fun x => cV⟩ := f0 cn [] [] Tryz.func24 (by kernel_rfl) fun x => by kernel_rfl
theorem cC.good (k : Nat) : G 25 ⟨[HI], [(HN 13)], fun x => cC x.1⟩ := f0 cn [] [] Tryz.func25 (by kernel_rfl) fun x => by kernel_rfl
theorem slices_Equal_lint.good (k : Nat) : G 26 ⟨[(HL (.int .i64)), (HL (.int .i64))], [HB], fun x => slices_Equal_lint x.1 x.2.1⟩ := by
 have c := cn
 have l := ln c Tryz.f26 [] (by kernel_rfl)
 have l := lc c l [] 0 ⟨[0, 1, 12, 13], [(HL (.int .i64)), (HL (.int .i64)), HI, HI]⟩ [(.exit 0, ⟨[], []⟩), (.ret, ⟨[4], [HB]⟩)] (fun n x => slices_Equal_lint.l0 x.1 x.2.1 x.2.2.1 n x.2.2.2.1) (fun x => (Int.toNat x.2.2.1 + 1)) (fun x => by kernel_rfl) (fun n x => by kernel_rfl) (by kernel_rfl)
 exact fo c l [] Tryz.func26 (by kernel_rfl) (fun x => by kernel_rfl)
theorem bH.good (k : Nat) : G 8 ⟨[], [HB], fun x => bH k⟩ := f0 (cf (cK.good k) (cf (api_Demand_13.good k) (cf (cQ.good k) (cf (cV.good k) (cf (cC.good k) (cf (slices_Equal_lint.good k) cn)))))) [] [(5, [(0, .bool)])] Tryz.func8 (by kernel_rfl) fun x => by kernel_rfl
theorem scarfjointref04_Few.good (k : Nat) : G 27 ⟨[(HN 3)], [HB], fun x => scarfjointref04_Few k x.1⟩ := by
 have c := cn
 have l := ln c Tryz.f27 [] (by kernel_rfl)
 have l := lc c l [(14, [(76, .bool)]), (8, [(46, .bool)]), (1, [(18, .bool)])] 4 ⟨[1, 3, 4, 5, 6, 7], [(.boxh (.nm 3) (HN 3)), HI, HI, HI, (.boxh (.nm 0) (HN 0)), HI]⟩ [(.exit 4, ⟨[1, 3, 4, 5], [(.boxh (.nm 3) (HN 3)), HI, HI, HI]⟩), (.ret, ⟨[2], [HB]⟩)] (fun n x => scarfjointref04_Few.l4 x.1 x.2.1 x.2.2.1 x.2.2.2.1 x.2.2.2.2.1 n x.2.2.2.2.2.1) (fun x => k) (fun x => by kernel_rfl) (fun n x => by kernel_rfl) (by kernel_rfl)
 have l := lc c l [(14, [(76, .bool)]), (8, [(46, .bool)]), (1, [(18, .bool)])] 2 ⟨[1, 3, 4, 5], [(.boxh (.nm 3) (HN 3)), HI, HI, HI]⟩ [(.exit 2, ⟨[1, 3, 4], [(.boxh (.nm 3) (HN 3)), HI, HI]⟩), (.ret, ⟨[2], [HB]⟩)] (fun n x => scarfjointref04_Few.l2 k n x.1 x.2.1 x.2.2.1 x.2.2.2.1) (fun x => k) (fun x => by kernel_rfl) (fun n x => by kernel_rfl) (by kernel_rfl)
 have l := lc c l [(14, [(76, .bool)]), (8, [(46, .bool)]), (1, [(18, .bool)])] 0 ⟨[1, 3, 4], [(.boxh (.nm 3) (HN 3)), HI, HI]⟩ [(.exit 0, ⟨[1], [(.boxh (.nm 3) (HN 3))]⟩), (.ret, ⟨[2], [HB]⟩)] (fun n x => scarfjointref04_Few.l0 k n x.1 x.2.1 x.2.2.1) (fun x => k) (fun x => by kernel_rfl) (fun n x => by kernel_rfl) (by kernel_rfl)
 have l := lc c l [(14, [(76, .bool)]), (8, [(46, .bool)]), (1, [(18, .bool)])] 6 ⟨[1, 8], [(.boxh (.nm 3) (HN 3)), HI]⟩ [(.exit 6, ⟨[], []⟩), (.ret, ⟨[2], [HB]⟩)] (fun n x => scarfjointref04_Few.l6 x.1 n x.2.1) (fun x => k) (fun x => by kernel_rfl) (fun n x => by kernel_rfl) (by kernel_rfl)
 exact fo c l [(14, [(76, .bool)]), (8, [(46, .bool)]), (1, [(18, .bool)])] Tryz.func27 (by kernel_rfl) (fun x => by kernel_rfl)
theorem dc.good (k : Nat) : G 80 ⟨[(HN 5)], [HB], fun x => dc x.1⟩ := f0 cn [] [(1, [(2, .bool)])] Tryz.func80 (by kernel_rfl) fun x => by kernel_rfl
theorem bu.good (k : Nat) : G 54 ⟨[(HN 9)], [HB], fun x => bu x.1⟩ := f0 (cf (dc.good k) cn) [] [(1, [(2, .bool)])] Tryz.func54 (by kernel_rfl) fun x => by kernel_rfl
theorem db.good (k : Nat) : G 55 ⟨[(HN 10), HI], [HB], fun x => db x.1 x.2.1⟩ := f0 cn [] [] Tryz.func55 (by kernel_rfl) fun x => by kernel_rfl
theorem bV.good (k : Nat) : G 56 ⟨[(HN 11), HI], [HB], fun x => bV x.1 x.2.1⟩ := f0 cn [] [] Tryz.func56 (by kernel_rfl) fun x => by kernel_rfl
theorem scarfjointref22_left.good : ∀ k : Nat, G 81 ⟨[(HN 12), HI], [HI], fun x => scarfjointref22_left k x.1 x.2.1⟩
 | 0 => dB Tryz.func81 (c := eF Tryz.f81) (by kernel_rfl) (by kernel_rfl) fun _ => rfl
 | k + 1 => by
  have h := scarfjointref22_left.good k
  have c := cf (bu.good k) (cf (bV.good k) (cf (h) cn))
  have l := ln c Tryz.f81 [] (by kernel_rfl)
  have l := lc c l [(5, [(26, .bool)]), (2, [(17, .bool)])] 0 ⟨[1, 2, 5], [HI, (.boxh (.nm 12) (HN 12)), HI]⟩ [(.exit 0, ⟨[1], [HI]⟩)] (fun n x => scarfjointref22_left.l0 (scarfjointref22_left k) x.2.1 n x.1 x.2.2.1) (fun x => k) (fun x => by kernel_rfl) (fun n x => by kernel_rfl) (by kernel_rfl)
  exact fo c l [(5, [(26, .bool)]), (2, [(17, .bool)])] Tryz.func81 (by kernel_rfl) (fun x => by kernel_rfl)
theorem dh.good (k : Nat) : G 57 ⟨[(HN 12)], [HB], fun x => dh k x.1⟩ := f0 (cf (scarfjointref22_left.good k) cn) [] [] Tryz.func57 (by kernel_rfl) fun x => by kernel_rfl
theorem cJ.good (k : Nat) : G 28 ⟨[(HN 13)], [HB], fun x => cJ k x.1⟩ := f0 (cf (bu.good k) (cf (db.good k) (cf (bV.good k) (cf (dh.good k) cn)))) [] [(1, [(2, .bool)])] Tryz.func28 (by kernel_rfl) fun x => by kernel_rfl
theorem scarfjointref40_Few.good (k : Nat) : G 9 ⟨[(HN 3), (HL (.nm 13))], [HB], fun x => scarfjointref40_Few k x.1 x.2.1⟩ := by
 have c := cf (scarfjointref04_Few.good k) (cf (cJ.good k) cn)
 have l := ln c Tryz.f9 [] (by kernel_rfl)
 have l := lc c l [(1, [(13, .bool)])] 0 ⟨[1, 5], [(HL (.nm 13)), HI]⟩ [(.exit 0, ⟨[], []⟩), (.ret, ⟨[4], [HB]⟩)] (fun n x => scarfjointref40_Few.l0 k x.1 n x.2.1) (fun x => k) (fun x => by kernel_rfl) (fun n x => by kernel_rfl) (by kernel_rfl)
 exact fo c l [(1, [(13, .bool)])] Tryz.func9 (by kernel_rfl) (fun x => by kernel_rfl)
theorem aD.good : ∀ k : Nat, G 106 ⟨[(HN 3), HI], [(RN 0)], fun x => aD k x.1 x.2.1⟩
 | 0 => dB Tryz.func106 (c := eF Tryz.f106) (by kernel_rfl) (by kernel_rfl) fun _ => rfl
 | k + 1 => by
  have h := aD.good k
  exact f0 (cf (h) cn) [] [] Tryz.func106 (by kernel_rfl) fun x => by kernel_rfl
theorem ah.good (k : Nat) : G 107 ⟨[HI, HI, HI], [HB], fun x => ah x.1 x.2.1 x.2.2.1⟩ := f0 cn [] [(1, [(6, .bool)])] Tryz.func107 (by kernel_rfl) fun x => by kernel_rfl
theorem cT.good (k : Nat) : G 211 ⟨[(HN 23)], [HS], fun x => cT x.1⟩ := f0 cn [] [] Tryz.func211 (by kernel_rfl) fun x => by kernel_rfl
theorem bD.good (k : Nat) : G 255 ⟨[(.hole (.int .u8))], [HB], fun x => bD x.1⟩ := f0 cn [] [(1, [(2, .bool)])] Tryz.func255 (by kernel_rfl) fun x => by kernel_rfl
theorem aS.good (k : Nat) : G 256 ⟨[(.hole (.int .u8))], [HB], fun x => aS x.1⟩ := f0 cn [] [(1, [(2, .bool)])] Tryz.func256 (by kernel_rfl) fun x => by kernel_rfl
theorem scarfjointref01_run.good (k : Nat) : G 257 ⟨[HS, HI, HB], [HI], fun x => scarfjointref01_run k x.1 x.2.1 x.2.2.1⟩ := by
 have c := cf (bD.good k) (cf (aS.good k) cn)
 have l := ln c Tryz.f257 [] (by kernel_rfl)
 have l := lc c l [(2, [(41, .bool)])] 0 ⟨[0, 1, 2, 7], [HS, HI, HB, HI]⟩ [(.exit 0, ⟨[7], [HI]⟩)] (fun n x => scarfjointref01_run.l0 x.1 x.2.1 x.2.2.1 n x.2.2.2.1) (fun x => k) (fun x => by kernel_rfl) (fun n x => by kernel_rfl) (by kernel_rfl)
 exact fo c l [(2, [(41, .bool)])] Tryz.func257 (by kernel_rfl) (fun x => by kernel_rfl)
theorem scarfjointref01_quoted.good (k : Nat) : G 258 ⟨[HS, HI], [HI], fun x => scarfjointref01_quoted k x.1 x.2.1⟩ := by
 have c := cn
 have l := ln c Tryz.f258 [] (by kernel_rfl)
 have l := lc c l [(7, [(29, .bool)])] 0 ⟨[0, 1, 5], [HS, HI, HI]⟩ [(.exit 0, ⟨[], []⟩), (.ret, ⟨[4], [HI]⟩)] (fun n x => scarfjointref01_quoted.l0 x.1 x.2.1 n x.2.2.1) (fun x => k) (fun x => by kernel_rfl) (fun n x => by kernel_rfl) (by kernel_rfl)
 exact fo c l [(7, [(29, .bool)])] Tryz.func258 (by kernel_rfl) (fun x => by kernel_rfl)
theorem cM.good (k : Nat) : G 259 ⟨[], [(.rowh .str)], fun x => cM⟩ := f0 cn [] [] Tryz.func259 (by kernel_rfl) fun x => by kernel_rfl
theorem scarfjointref01_one.good (k : Nat) : G 212 ⟨[HS, HI], [(HN 23), HI, HI], fun x => scarfjointref01_one k x.1 x.2.1⟩ := by
 have c := cf (bD.good k) (cf (aS.good k) (cf (scarfjointref01_run.good k) (cf (scarfjointref01_quoted.good k) (cf (cM.good k) cn))))
 have l := ln c Tryz.f212 [] (by kernel_rfl)
 have l := lc c l [(21, [(98, .bool)]), (2, [(22, .bool)])] 0 ⟨[0, 1, 4, 12, 13], [HS, HI, (.boxh (.nm 23) (HN 23)), (.rowh .str), HI]⟩ [(.exit 0, ⟨[4], [(.boxh (.nm 23) (HN 23))]⟩), (.ret, ⟨[4, 5, 6], [(.boxh (.nm 23) (HN 23)), HI, HI]⟩)] (fun n x => scarfjointref01_one.l0 x.1 x.2.1 x.2.2.1 x.2.2.2.1 n x.2.2.2.2.1) (fun x => k) (fun x => by kernel_rfl) (fun n x => by kernel_rfl) (by kernel_rfl)
 exact fo c l [(21, [(98, .bool)]), (2, [(22, .bool)])] Tryz.func212 (by kernel_rfl) (fun x => by kernel_rfl)
theorem cL.good (k : Nat) : G 159 ⟨[(HN 23)], [HB], fun x => cL k x.1⟩ := f0 (cf (cT.good k) (cf (scarfjointref01_one.good k) cn)) [] [(5, [(2, .bool)])] Tryz.func159 (by kernel_rfl) fun x => by kernel_rfl
theorem ay.good (k : Nat) : G 123 ⟨[HS], [HB], fun x => ay k x.1⟩ := f0 (cf (cL.good k) cn) [] [] Tryz.func123 (by kernel_rfl) fun x => by kernel_rfl
theorem scarfjointref04_names.good (k : Nat) : G 160 ⟨[(HL .str)], [HI], fun x => scarfjointref04_names k x.1⟩ := by
 have c := cf (ay.good k) cn
 have l := ln c Tryz.f160 [] (by kernel_rfl)
 have l := lc c l [] 2 ⟨[0, 3, 4], [(HL .str), HI, HI]⟩ [(.exit 2, ⟨[0, 3], [(HL .str), HI]⟩), (.ret, ⟨[2], [HI]⟩)] (fun n x => scarfjointref04_names.l2 x.1 x.2.1 n x.2.2.1) (fun x => k) (fun x => by kernel_rfl) (fun n x => by kernel_rfl) (by kernel_rfl)
 have l := lc c l [] 0 ⟨[0, 3], [(HL .str), HI]⟩ [(.exit 0, ⟨[], []⟩), (.ret, ⟨[2], [HI]⟩)] (fun n x => scarfjointref04_names.l0 k n x.1 x.2.1) (fun x => k) (fun x => by kernel_rfl) (fun n x => by kernel_rfl) (by kernel_rfl)
 exact fo c l [] Tryz.func160 (by kernel_rfl) (fun x => by kernel_rfl)
theorem bC.good (k : Nat) : G 124 ⟨[(HN 0)], [HI], fun x => bC k x.1⟩ := f0 (cf (ah.good k) (cf (scarfjointref04_names.good k) cn)) [] [(8, [(37, .bool)]), (2, [(19, .bool)])] Tryz.func124 (by kernel_rfl) fun x => by kernel_rfl
theorem scarfjointref04_node.good (k : Nat) : G 90 ⟨[(HN 3), HI], [HI], fun x => scarfjointref04_node k x.1 x.2.1⟩ := by
 have c := cf (aD.good k) (cf (ah.good k) (cf (ay.good k) (cf (bC.good k) cn)))
 have l := ln c Tryz.f90 [] (by kernel_rfl)
 have l := lc c l [(12, [(51, .bool)])] 0 ⟨[1, 2, 5, 6], [HI, (.boxh (.nm 3) (HN 3)), (.boxh (.nm 1) (HN 1)), HI]⟩ [(.exit 0, ⟨[1, 2, 5], [HI, (.boxh (.nm 3) (HN 3)), (.boxh (.nm 1) (HN 1))]⟩), (.ret, ⟨[4], [HI]⟩)] (fun n x => scarfjointref04_node.l0 x.1 x.2.1 x.2.2.1 n x.2.2.2.1) (fun x => k) (fun x => by kernel_rfl) (fun n x => by kernel_rfl) (by kernel_rfl)
 have l := lc c l [(12, [(51, .bool)])] 4 ⟨[7, 8, 9], [(RN 0), HI, HI]⟩ [(.exit 4, ⟨[7, 8], [(RN 0), HI]⟩), (.ret, ⟨[4], [HI]⟩)] (fun n x => scarfjointref04_node.l4 x.1 x.2.1 n x.2.2.1) (fun x => k) (fun x => by kernel_rfl) (fun n x => by kernel_rfl) (by kernel_rfl)
 have l := lc c l [(12, [(51, .bool)])] 2 ⟨[7, 8], [(RN 0), HI]⟩ [(.exit 2, ⟨[], []⟩), (.ret, ⟨[4], [HI]⟩)] (fun n x => scarfjointref04_node.l2 k n x.1 x.2.1) (fun x => k) (fun x => by kernel_rfl) (fun n x => by kernel_rfl) (by kernel_rfl)
 exact fo c l [(12, [(51, .bool)])] Tryz.func90 (by kernel_rfl) (fun x => by kernel_rfl)
theorem bG.good (k : Nat) : G 125 ⟨[HI, HI], [HB], fun x => bG x.1 x.2.1⟩ := f0 (cf (ah.good k) cn) [] [(1, [(4, .bool)])] Tryz.func125 (by kernel_rfl) fun x => by kernel_rfl
theorem scarfjointref04_edge.good (k : Nat) : G 91 ⟨[(HN 3), HI], [HI], fun x => scarfjointref04_edge k x.1 x.2.1⟩ := by
 have c := cf (ah.good k) (cf (ay.good k) (cf (bG.good k) cn))
 have l := ln c Tryz.f91 [] (by kernel_rfl)
 have l := lc c l [(10, [(62, .bool)])] 0 ⟨[1, 2, 5, 6], [HI, (.boxh (.nm 3) (HN 3)), (.boxh (.nm 2) (HN 2)), HI]⟩ [(.exit 0, ⟨[2, 5], [(.boxh (.nm 3) (HN 3)), (.boxh (.nm 2) (HN 2))]⟩), (.ret, ⟨[4], [HI]⟩)] (fun n x => scarfjointref04_edge.l0 x.1 x.2.1 x.2.2.1 n x.2.2.2.1) (fun x => k) (fun x => by kernel_rfl) (fun n x => by kernel_rfl) (by kernel_rfl)
 exact fo c l [(10, [(62, .bool)])] Tryz.func91 (by kernel_rfl) (fun x => by kernel_rfl)
theorem scarfjointref04_Valid.good (k : Nat) : G 63 ⟨[(HN 3)], [HS, HI], fun x => scarfjointref04_Valid k x.1⟩ := by
 have c := cf (scarfjointref04_node.good k) (cf (scarfjointref04_edge.good k) cn)
 have l := ln c Tryz.f63 [] (by kernel_rfl)
 have l := lc c l [(3, [(21, .bool)])] 0 ⟨[1, 4], [(.boxh (.nm 3) (HN 3)), HI]⟩ [(.exit 0, ⟨[1], [(.boxh (.nm 3) (HN 3))]⟩), (.ret, ⟨[2, 3], [HS, HI]⟩)] (fun n x => scarfjointref04_Valid.l0 k x.1 n x.2.1) (fun x => k) (fun x => by kernel_rfl) (fun n x => by kernel_rfl) (by kernel_rfl)
 have l := lc c l [(3, [(21, .bool)])] 2 ⟨[1, 6], [(.boxh (.nm 3) (HN 3)), HI]⟩ [(.exit 2, ⟨[], []⟩), (.ret, ⟨[2, 3], [HS, HI]⟩)] (fun n x => scarfjointref04_Valid.l2 k x.1 n x.2.1) (fun x => k) (fun x => by kernel_rfl) (fun n x => by kernel_rfl) (by kernel_rfl)
 exact fo c l [(3, [(21, .bool)])] Tryz.func63 (by kernel_rfl) (fun x => by kernel_rfl)
theorem scarfjointref24_has.good (k : Nat) : G 170 ⟨[(HL (.int .i64)), HI], [HB], fun x => scarfjointref24_has k x.1 x.2.1⟩ := by
 have c := cn
 have l := ln c Tryz.f170 [] (by kernel_rfl)
 have l := lc c l [] 0 ⟨[0, 1, 5], [(HL (.int .i64)), HI, HI]⟩ [(.exit 0, ⟨[], []⟩), (.ret, ⟨[4], [HB]⟩)] (fun n x => scarfjointref24_has.l0 x.1 x.2.1 n x.2.2.1) (fun x => k) (fun x => by kernel_rfl) (fun n x => by kernel_rfl) (by kernel_rfl)
 exact fo c l [] Tryz.func170 (by kernel_rfl) (fun x => by kernel_rfl)
theorem scarfjointref24_rest.good (k : Nat) : G 132 ⟨[HI, (HL (.int .i64))], [RI], fun x => scarfjointref24_rest k x.1 x.2.1⟩ := by
 have c := cf (scarfjointref24_has.good k) cn
 have l := ln c Tryz.f132 [] (by kernel_rfl)
 have l := lc c l [] 0 ⟨[0, 1, 5, 6], [HI, (HL (.int .i64)), RI, HI]⟩ [(.exit 0, ⟨[5], [RI]⟩)] (fun n x => scarfjointref24_rest.l0 k x.1 x.2.1 n x.2.2.1 x.2.2.2.1) (fun x => k) (fun x => by kernel_rfl) (fun n x => by kernel_rfl) (by kernel_rfl)
 exact fo c l [] Tryz.func132 (by kernel_rfl) (fun x => by kernel_rfl)
theorem aV.good (k : Nat) : G 96 ⟨[(HN 13)], [RI, RI], fun x => aV k x.1⟩ := f0 (cf (scarfjointref24_rest.good k) cn) [] [] Tryz.func96 (by kernel_rfl) fun x => by kernel_rfl
theorem bB.good (k : Nat) : G 175 ⟨[HI], [HB], fun x => bB x.1⟩ := f0 cn [] [(1, [(2, .bool)])] Tryz.func175 (by kernel_rfl) fun x => by kernel_rfl
theorem bY.good (k : Nat) : G 176 ⟨[(HN 4), HI], [HB], fun x => bY x.1 x.2.1⟩ := f0 (cf (bB.good k) cn) [] [(1, [(4, .bool)])] Tryz.func176 (by kernel_rfl) fun x => by kernel_rfl
theorem scarfjointref05_Valid.good (k : Nat) : G 141 ⟨[(HN 5)], [HI], fun x => scarfjointref05_Valid k x.1⟩ := by
 have c := cf (bB.good k) (cf (bY.good k) cn)
 have l := ln c Tryz.f141 [] (by kernel_rfl)
 have l := lc c l [(1, [(14, .bool)])] 0 ⟨[1, 3], [(.boxh (.nm 5) (HN 5)), HI]⟩ [(.exit 0, ⟨[1], [(.boxh (.nm 5) (HN 5))]⟩), (.ret, ⟨[2], [HI]⟩)] (fun n x => scarfjointref05_Valid.l0 x.1 n x.2.1) (fun x => k) (fun x => by kernel_rfl) (fun n x => by kernel_rfl) (by kernel_rfl)
 have l := lc c l [(1, [(14, .bool)])] 2 ⟨[1, 4], [(.boxh (.nm 5) (HN 5)), HI]⟩ [(.exit 2, ⟨[], []⟩), (.ret, ⟨[2], [HI]⟩)] (fun n x => scarfjointref05_Valid.l2 x.1 n x.2.1) (fun x => k) (fun x => by kernel_rfl) (fun n x => by kernel_rfl) (by kernel_rfl)
 exact fo c l [(1, [(14, .bool)])] Tryz.func141 (by kernel_rfl) (fun x => by kernel_rfl)
theorem scarfjointref17_Typed.good (k : Nat) : G 161 ⟨[(HN 3), (HN 5)], [HB], fun x => scarfjointref17_Typed k x.1 x.2.1⟩ := by
 have c := cn
 have l := ln c Tryz.f161 [] (by kernel_rfl)
 have l := lc c l [(9, [(56, .bool)]), (4, [(30, .bool)])] 0 ⟨[2, 3, 5], [(.boxh (.nm 3) (HN 3)), (.boxh (.nm 5) (HN 5)), HI]⟩ [(.exit 0, ⟨[2, 3], [(.boxh (.nm 3) (HN 3)), (.boxh (.nm 5) (HN 5))]⟩), (.ret, ⟨[4], [HB]⟩)] (fun n x => scarfjointref17_Typed.l0 x.1 x.2.1 n x.2.2.1) (fun x => k) (fun x => by kernel_rfl) (fun n x => by kernel_rfl) (by kernel_rfl)
 have l := lc c l [(9, [(56, .bool)]), (4, [(30, .bool)])] 2 ⟨[2, 3, 6], [(.boxh (.nm 3) (HN 3)), (.boxh (.nm 5) (HN 5)), HI]⟩ [(.exit 2, ⟨[], []⟩), (.ret, ⟨[4], [HB]⟩)] (fun n x => scarfjointref17_Typed.l2 x.1 x.2.1 n x.2.2.1) (fun x => k) (fun x => by kernel_rfl) (fun n x => by kernel_rfl) (by kernel_rfl)
 exact fo c l [(9, [(56, .bool)]), (4, [(30, .bool)])] Tryz.func161 (by kernel_rfl) (fun x => by kernel_rfl)
theorem aN.good (k : Nat) : G 94 ⟨[(HN 3), HI, HI], [HI], fun x => aN k x.1 x.2.1 x.2.2.1⟩ := f0 (cf (scarfjointref04_Valid.good k) (cf (ah.good k) cn)) [] [(4, [(32, .bool)])] Tryz.func94 (by kernel_rfl) fun x => by kernel_rfl
theorem scarfjointref04_Attrs.good (k : Nat) : G 78 ⟨[(HN 3), HI], [(RN 0), HI], fun x => scarfjointref04_Attrs k x.1 x.2.1⟩ := by
 have c := cf (aN.good k) (cf (aD.good k) cn)
 have l := ln c Tryz.f78 [] (by kernel_rfl)
 have l := lc c l [] 0 ⟨[7, 8, 9], [(RN 0), (RN 0), HI]⟩ [(.exit 0, ⟨[7], [(RN 0)]⟩)] (fun n x => scarfjointref04_Attrs.l0 x.2.1 n x.1 x.2.2.1) (fun x => k) (fun x => by kernel_rfl) (fun n x => by kernel_rfl) (by kernel_rfl)
 exact fo c l [] Tryz.func78 (by kernel_rfl) (fun x => by kernel_rfl)
theorem cD.good (k : Nat) : G 162 ⟨[(HN 3), (HN 9), HI, HI], [(HN 0), HB], fun x => cD k x.1 x.2.1 x.2.2.1 x.2.2.2.1⟩ := f0 (cf (scarfjointref04_Attrs.good k) cn) [] [(4, [(45, .bool)]), (1, [(21, .bool)])] Tryz.func162 (by kernel_rfl) fun x => by kernel_rfl
theorem ck.good (k : Nat) : G 163 ⟨[HI], [HB], fun x => ck x.1⟩ := f0 cn [] [(1, [(2, .bool)])] Tryz.func163 (by kernel_rfl) fun x => by kernel_rfl
theorem bT.good (k : Nat) : G 260 ⟨[HI, (HN 6)], [HI], fun x => bT x.1 x.2.1⟩ := f0 cn [] [(1, [(23, .bool)])] Tryz.func260 (by kernel_rfl) fun x => by kernel_rfl
theorem cI.good (k : Nat) : G 213 ⟨[HI, (HN 8)], [HI], fun x => cI x.1 x.2.1⟩ := f0 (cf (bT.good k) cn) [] [(1, [(13, .bool)])] Tryz.func213 (by kernel_rfl) fun x => by kernel_rfl
theorem scarfjointref03_Valid.good (k : Nat) : G 164 ⟨[HI, (HL (.nm 8))], [HI], fun x => scarfjointref03_Valid k x.1 x.2.1⟩ := by
 have c := cf (cI.good k) cn
 have l := ln c Tryz.f164 [] (by kernel_rfl)
 have l := lc c l [(1, [(12, .bool)])] 0 ⟨[0, 1, 5], [HI, (HL (.nm 8)), HI]⟩ [(.exit 0, ⟨[], []⟩), (.ret, ⟨[4], [HI]⟩)] (fun n x => scarfjointref03_Valid.l0 x.1 x.2.1 n x.2.2.1) (fun x => k) (fun x => by kernel_rfl) (fun n x => by kernel_rfl) (by kernel_rfl)
 exact fo c l [(1, [(12, .bool)])] Tryz.func164 (by kernel_rfl) (fun x => by kernel_rfl)
end Go.Ev
end
section
open Go.Proofs
namespace Go.Ev
theorem scarfjointref21_occurs.good (k : Nat) : G 165 ⟨[(HN 9), HI], [HB], fun x => scarfjointref21_occurs k x.1 x.2.1⟩ := by
 have c := cn
 have l := ln c Tryz.f165 [] (by kernel_rfl)
 have l := lc c l [] 0 ⟨[1, 2, 5], [HI, (.boxh (.nm 9) (HN 9)), HI]⟩ [(.exit 0, ⟨[], []⟩), (.ret, ⟨[4], [HB]⟩)] (fun n x => scarfjointref21_occurs.l0 x.1 x.2.1 n x.2.2.1) (fun x => k) (fun x => by kernel_rfl) (fun n x => by kernel_rfl) (by kernel_rfl)
 exact fo c l [] Tryz.func165 (by kernel_rfl) (fun x => by kernel_rfl)
theorem scarfjointref21_Valid.good (k : Nat) : G 126 ⟨[(HN 3), (HN 9)], [HI], fun x => scarfjointref21_Valid k x.1 x.2.1⟩ := by
 have c := cf (scarfjointref04_Valid.good k) (cf (scarfjointref05_Valid.good k) (cf (scarfjointref17_Typed.good k) (cf (cD.good k) (cf (ck.good k) (cf (scarfjointref03_Valid.good k) (cf (scarfjointref21_occurs.good k) cn))))))
 have l := ln c Tryz.f126 [] (by kernel_rfl)
 have l := lc c l [(18, [(95, .bool)]), (11, [(50, .bool)]), (9, [(40, .bool)])] 0 ⟨[2, 3, 8], [(.boxh (.nm 3) (HN 3)), (.boxh (.nm 9) (HN 9)), HI]⟩ [(.exit 0, ⟨[3], [(.boxh (.nm 9) (HN 9))]⟩), (.ret, ⟨[4], [HI]⟩)] (fun n x => scarfjointref21_Valid.l0 k x.1 x.2.1 n x.2.2.1) (fun x => k) (fun x => by kernel_rfl) (fun n x => by kernel_rfl) (by kernel_rfl)
 have l := lc c l [(18, [(95, .bool)]), (11, [(50, .bool)]), (9, [(40, .bool)])] 2 ⟨[3, 13], [(.boxh (.nm 9) (HN 9)), HI]⟩ [(.exit 2, ⟨[], []⟩), (.ret, ⟨[4], [HI]⟩)] (fun n x => scarfjointref21_Valid.l2 k x.1 n x.2.1) (fun x => k) (fun x => by kernel_rfl) (fun n x => by kernel_rfl) (by kernel_rfl)
 exact fo c l [(18, [(95, .bool)]), (11, [(50, .bool)]), (9, [(40, .bool)])] Tryz.func126 (by kernel_rfl) (fun x => by kernel_rfl)
theorem scarfjointref24_slot.good (k : Nat) : G 166 ⟨[(HN 3), (HN 9), HI], [HI], fun x => scarfjointref24_slot k x.1 x.2.1 x.2.2.1⟩ := by
 have c := cf (scarfjointref04_Attrs.good k) cn
 have l := ln c Tryz.f166 [] (by kernel_rfl)
 have l := lc c l [(10, [(100, .bool)]), (5, [(75, .bool)]), (2, [(27, .bool)])] 0 ⟨[2, 4, 7, 10], [HI, (.boxh (.nm 9) (HN 9)), (.boxh (.nm 7) (HN 7)), HI]⟩ [(.exit 0, ⟨[], []⟩), (.ret, ⟨[6], [HI]⟩)] (fun n x => scarfjointref24_slot.l0 x.1 x.2.1 x.2.2.1 n x.2.2.2.1) (fun x => k) (fun x => by kernel_rfl) (fun n x => by kernel_rfl) (by kernel_rfl)
 exact fo c l [(10, [(100, .bool)]), (5, [(75, .bool)]), (2, [(27, .bool)])] Tryz.func166 (by kernel_rfl) (fun x => by kernel_rfl)
theorem scarfjointref24_right.good (k : Nat) : G 127 ⟨[(HN 3), (HN 13)], [HI], fun x => scarfjointref24_right k x.1 x.2.1⟩ := by
 have c := cf (scarfjointref05_Valid.good k) (cf (scarfjointref17_Typed.good k) (cf (scarfjointref24_slot.good k) cn))
 have l := ln c Tryz.f127 [] (by kernel_rfl)
 have l := lc c l [(6, [(34, .bool)])] 0 ⟨[2, 3, 6], [(.boxh (.nm 3) (HN 3)), (.boxh (.nm 13) (HN 13)), HI]⟩ [(.exit 0, ⟨[], []⟩), (.ret, ⟨[4], [HI]⟩)] (fun n x => scarfjointref24_right.l0 k x.1 x.2.1 n x.2.2.1) (fun x => k) (fun x => by kernel_rfl) (fun n x => by kernel_rfl) (by kernel_rfl)
 exact fo c l [(6, [(34, .bool)])] Tryz.func127 (by kernel_rfl) (fun x => by kernel_rfl)
theorem scarfjointref07_ascending.good (k : Nat) : G 218 ⟨[(HL (.int .i64)), HI], [HI], fun x => scarfjointref07_ascending k x.1 x.2.1⟩ := by
 have c := cn
 have l := ln c Tryz.f218 [] (by kernel_rfl)
 have l := lc c l [(6, [(38, .bool)]), (4, [(24, .bool)])] 0 ⟨[0, 1, 5], [(HL (.int .i64)), HI, HI]⟩ [(.exit 0, ⟨[], []⟩), (.ret, ⟨[4], [HI]⟩)] (fun n x => scarfjointref07_ascending.l0 x.1 x.2.1 n x.2.2.1) (fun x => k) (fun x => by kernel_rfl) (fun n x => by kernel_rfl) (by kernel_rfl)
 exact fo c l [(6, [(38, .bool)]), (4, [(24, .bool)])] Tryz.func218 (by kernel_rfl) (fun x => by kernel_rfl)
theorem scarfjointref07_has.good (k : Nat) : G 219 ⟨[(HL (.int .i64)), HI], [HB], fun x => scarfjointref07_has k x.1 x.2.1⟩ := by
 have c := cn
 have l := ln c Tryz.f219 [] (by kernel_rfl)
 have l := lc c l [] 0 ⟨[0, 1, 5], [(HL (.int .i64)), HI, HI]⟩ [(.exit 0, ⟨[], []⟩), (.ret, ⟨[4], [HB]⟩)] (fun n x => scarfjointref07_has.l0 x.1 x.2.1 n x.2.2.1) (fun x => k) (fun x => by kernel_rfl) (fun n x => by kernel_rfl) (by kernel_rfl)
 exact fo c l [] Tryz.func219 (by kernel_rfl) (fun x => by kernel_rfl)
theorem scarfjointref07_Right.good (k : Nat) : G 174 ⟨[(HN 5), (HN 10)], [HI], fun x => scarfjointref07_Right k x.1 x.2.1⟩ := by
 have c := cf (scarfjointref07_ascending.good k) (cf (scarfjointref07_has.good k) cn)
 have l := ln c Tryz.f174 [] (by kernel_rfl)
 have l := lc c l [(11, [(56, .bool)])] 0 ⟨[2, 3, 7], [(.boxh (.nm 5) (HN 5)), (.boxh (.nm 10) (HN 10)), HI]⟩ [(.exit 0, ⟨[], []⟩), (.ret, ⟨[4], [HI]⟩)] (fun n x => scarfjointref07_Right.l0 k x.1 x.2.1 n x.2.2.1) (fun x => k) (fun x => by kernel_rfl) (fun n x => by kernel_rfl) (by kernel_rfl)
 exact fo c l [(11, [(56, .bool)])] Tryz.func174 (by kernel_rfl) (fun x => by kernel_rfl)
theorem bo.good (k : Nat) : G 136 ⟨[(HN 5), (HN 10)], [HI], fun x => bo k x.1 x.2.1⟩ := f0 (cf (scarfjointref05_Valid.good k) (cf (scarfjointref07_Right.good k) cn)) [] [] Tryz.func136 (by kernel_rfl) fun x => by kernel_rfl
theorem scarfjointref07_index.good (k : Nat) : G 137 ⟨[(HL (.int .i64)), HI], [HI], fun x => scarfjointref07_index k x.1 x.2.1⟩ := by
 have c := cn
 have l := ln c Tryz.f137 [] (by kernel_rfl)
 have l := lc c l [] 0 ⟨[0, 1, 5], [(HL (.int .i64)), HI, HI]⟩ [(.exit 0, ⟨[], []⟩), (.ret, ⟨[4], [HI]⟩)] (fun n x => scarfjointref07_index.l0 x.1 x.2.1 n x.2.2.1) (fun x => k) (fun x => by kernel_rfl) (fun n x => by kernel_rfl) (by kernel_rfl)
 exact fo c l [] Tryz.func137 (by kernel_rfl) (fun x => by kernel_rfl)
theorem scarfjointref07_Extract.good (k : Nat) : G 99 ⟨[(HN 5), (HN 10)], [(.aggh 5 [RI, (RN 4)]), (.aggh 11 [RI, RI]), HI], fun x => scarfjointref07_Extract k x.1 x.2.1⟩ := by
 have c := cf (bo.good k) (cf (scarfjointref07_index.good k) cn)
 have l := ln c Tryz.f99 [] (by kernel_rfl)
 have l := lc c l [] 0 ⟨[2, 3, 4, 5, 8, 9], [(.boxh (.nm 5) (HN 5)), (.boxh (.nm 10) (HN 10)), (.boxh (.nm 5) (.aggh 5 [RI, (RN 4)])), (.boxh (.nm 11) (.aggh 11 [RI, RI])), (.boxh (.nm 5) (.aggh 5 [RI, (RN 4)])), HI]⟩ [(.exit 0, ⟨[2, 3, 4, 5, 8], [(.boxh (.nm 5) (HN 5)), (.boxh (.nm 10) (HN 10)), (.boxh (.nm 5) (.aggh 5 [RI, (RN 4)])), (.boxh (.nm 11) (.aggh 11 [RI, RI])), (.boxh (.nm 5) (.aggh 5 [RI, (RN 4)]))]⟩)] (fun n x => scarfjointref07_Extract.l0 x.1 x.2.1 x.2.2.1.1 x.2.2.1.2.1 x.2.2.2.1.1 x.2.2.2.1.2.1 x.2.2.2.2.1.2.1 n x.2.2.2.2.1.1 x.2.2.2.2.2.1) (fun x => k) (fun x => by kernel_rfl) (fun n x => by kernel_rfl) (by kernel_rfl)
 have l := lc c l [] 2 ⟨[2, 3, 4, 5, 8, 10], [(.boxh (.nm 5) (HN 5)), (.boxh (.nm 10) (HN 10)), (.boxh (.nm 5) (.aggh 5 [RI, (RN 4)])), (.boxh (.nm 11) (.aggh 11 [RI, RI])), (.boxh (.nm 5) (.aggh 5 [RI, (RN 4)])), HI]⟩ [(.exit 2, ⟨[3, 4, 5, 8], [(.boxh (.nm 10) (HN 10)), (.boxh (.nm 5) (.aggh 5 [RI, (RN 4)])), (.boxh (.nm 11) (.aggh 11 [RI, RI])), (.boxh (.nm 5) (.aggh 5 [RI, (RN 4)]))]⟩)] (fun n x => scarfjointref07_Extract.l2 k x.1 x.2.1 x.2.2.1.1 x.2.2.1.2.1 x.2.2.2.1.1 x.2.2.2.1.2.1 x.2.2.2.2.1.1 n x.2.2.2.2.1.2.1 x.2.2.2.2.2.1) (fun x => k) (fun x => by kernel_rfl) (fun n x => by kernel_rfl) (by kernel_rfl)
 exact fo c l [] Tryz.func99 (by kernel_rfl) (fun x => by kernel_rfl)
theorem scarfjointref06_Valid.good (k : Nat) : G 167 ⟨[(HN 5), (HN 5), (HN 11)], [HI], fun x => scarfjointref06_Valid k x.1 x.2.1 x.2.2.1⟩ := by
 have c := cf (scarfjointref05_Valid.good k) cn
 have l := ln c Tryz.f167 [] (by kernel_rfl)
 have l := lc c l [(24, [(140, .bool)]), (19, [(101, .bool)]), (12, [(62, .bool)]), (7, [(38, .bool)])] 0 ⟨[3, 4, 5, 9], [(.boxh (.nm 5) (HN 5)), (.boxh (.nm 5) (HN 5)), (.boxh (.nm 11) (HN 11)), HI]⟩ [(.exit 0, ⟨[3, 4, 5], [(.boxh (.nm 5) (HN 5)), (.boxh (.nm 5) (HN 5)), (.boxh (.nm 11) (HN 11))]⟩), (.ret, ⟨[6], [HI]⟩)] (fun n x => scarfjointref06_Valid.l0 x.1 x.2.1 x.2.2.1 n x.2.2.2.1) (fun x => k) (fun x => by kernel_rfl) (fun n x => by kernel_rfl) (by kernel_rfl)
 have l := lc c l [(24, [(140, .bool)]), (19, [(101, .bool)]), (12, [(62, .bool)]), (7, [(38, .bool)])] 2 ⟨[3, 4, 5, 10], [(.boxh (.nm 5) (HN 5)), (.boxh (.nm 5) (HN 5)), (.boxh (.nm 11) (HN 11)), HI]⟩ [(.exit 2, ⟨[], []⟩), (.ret, ⟨[6], [HI]⟩)] (fun n x => scarfjointref06_Valid.l2 x.1 x.2.1 x.2.2.1 n x.2.2.2.1) (fun x => k) (fun x => by kernel_rfl) (fun n x => by kernel_rfl) (by kernel_rfl)
 exact fo c l [(24, [(140, .bool)]), (19, [(101, .bool)]), (12, [(62, .bool)]), (7, [(38, .bool)])] Tryz.func167 (by kernel_rfl) (fun x => by kernel_rfl)
theorem cq.good (k : Nat) : G 128 ⟨[(HN 13)], [HI], fun x => cq k x.1⟩ := f0 (cf (scarfjointref07_Extract.good k) (cf (bo.good k) (cf (scarfjointref06_Valid.good k) cn))) [] [] Tryz.func128 (by kernel_rfl) fun x => by kernel_rfl
theorem scarfjointref06_Distinct.good (k : Nat) : G 129 ⟨[(HL (.int .i64))], [HB], fun x => scarfjointref06_Distinct k x.1⟩ := by
 have c := cn
 have l := ln c Tryz.f129 [] (by kernel_rfl)
 have l := lc c l [] 2 ⟨[0, 3, 4], [(HL (.int .i64)), HI, HI]⟩ [(.exit 2, ⟨[0, 3], [(HL (.int .i64)), HI]⟩), (.ret, ⟨[2], [HB]⟩)] (fun n x => scarfjointref06_Distinct.l2 x.1 x.2.1 n x.2.2.1) (fun x => k) (fun x => by kernel_rfl) (fun n x => by kernel_rfl) (by kernel_rfl)
 have l := lc c l [] 0 ⟨[0, 3], [(HL (.int .i64)), HI]⟩ [(.exit 0, ⟨[], []⟩), (.ret, ⟨[2], [HB]⟩)] (fun n x => scarfjointref06_Distinct.l0 k n x.1 x.2.1) (fun x => k) (fun x => by kernel_rfl) (fun n x => by kernel_rfl) (by kernel_rfl)
 exact fo c l [] Tryz.func129 (by kernel_rfl) (fun x => by kernel_rfl)
theorem ax.good : ∀ k : Nat, G 95 ⟨[(HN 3), HI, HI], [HB], fun x => ax k x.1 x.2.1 x.2.2.1⟩
 | 0 => dB Tryz.func95 (c := eF Tryz.f95) (by kernel_rfl) (by kernel_rfl) fun _ => rfl
 | k + 1 => by
  have h := ax.good k
  exact f0 (cf (h) cn) [] [(1, [(6, .bool)])] Tryz.func95 (by kernel_rfl) fun x => by kernel_rfl
theorem ci.good (k : Nat) : G 79 ⟨[(HN 3), HI, HI, HI], [HB], fun x => ci k x.1 x.2.1 x.2.2.1 x.2.2.2.1⟩ := f0 (cf (aN.good k) (cf (ax.good k) (cf (ah.good k) cn))) [] [(3, [(8, .bool)]), (1, [(22, .bool)])] Tryz.func79 (by kernel_rfl) fun x => by kernel_rfl
theorem scarfjointref24_proper.good (k : Nat) : G 130 ⟨[(HN 3), (HN 5), (HL (.int .i64)), (HL (.int .i64))], [HB], fun x => scarfjointref24_proper k x.1 x.2.1 x.2.2.1 x.2.2.2.1⟩ := by
 have c := cf (ci.good k) cn
 have l := ln c Tryz.f130 [] (by kernel_rfl)
 have l := lc c l [] 0 ⟨[2, 3, 4, 5, 9], [(HL (.int .i64)), (HL (.int .i64)), (.boxh (.nm 3) (HN 3)), (.boxh (.nm 5) (HN 5)), HI]⟩ [(.exit 0, ⟨[3, 4, 5], [(HL (.int .i64)), (.boxh (.nm 3) (HN 3)), (.boxh (.nm 5) (HN 5))]⟩), (.ret, ⟨[8], [HB]⟩)] (fun n x => scarfjointref24_proper.l0 x.1 x.2.1 x.2.2.1 x.2.2.2.1 n x.2.2.2.2.1) (fun x => k) (fun x => by kernel_rfl) (fun n x => by kernel_rfl) (by kernel_rfl)
 have l := lc c l [] 2 ⟨[3, 4, 5, 10], [(HL (.int .i64)), (.boxh (.nm 3) (HN 3)), (.boxh (.nm 5) (HN 5)), HI]⟩ [(.exit 2, ⟨[], []⟩), (.ret, ⟨[8], [HB]⟩)] (fun n x => scarfjointref24_proper.l2 k x.1 x.2.1 x.2.2.1 n x.2.2.2.1) (fun x => k) (fun x => by kernel_rfl) (fun n x => by kernel_rfl) (by kernel_rfl)
 exact fo c l [] Tryz.func130 (by kernel_rfl) (fun x => by kernel_rfl)
theorem aP.good (k : Nat) : G 277 ⟨[(HN 12)], [HB], fun x => aP x.1⟩ := f0 cn [] [(2, [(2, .bool)])] Tryz.func277 (by kernel_rfl) fun x => by kernel_rfl
theorem cb.good (k : Nat) : G 261 ⟨[(HN 12)], [HB], fun x => cb x.1⟩ := f0 (cf (aP.good k) cn) [] [(3, [(2, .bool)]), (5, [(2, .bool)]), (8, [(2, .bool)])] Tryz.func261 (by kernel_rfl) fun x => by kernel_rfl
theorem scarfjointref22_allRight.good : ∀ k : Nat, G 214 ⟨[(HN 12)], [HB], fun x => scarfjointref22_allRight k x.1⟩
 | 0 => dB Tryz.func214 (c := eF Tryz.f214) (by kernel_rfl) (by kernel_rfl) fun _ => rfl
 | k + 1 => by
  have h := scarfjointref22_allRight.good k
  have c := cf (h) (cf (cb.good k) cn)
  have l := ln c Tryz.f214 [] (by kernel_rfl)
  have l := lc c l [] 0 ⟨[1, 3], [(.boxh (.nm 12) (HN 12)), HI]⟩ [(.exit 0, ⟨[], []⟩), (.ret, ⟨[2], [HB]⟩)] (fun n x => scarfjointref22_allRight.l0 (scarfjointref22_allRight k) x.1 n x.2.1) (fun x => k) (fun x => by kernel_rfl) (fun n x => by kernel_rfl) (by kernel_rfl)
  exact fo c l [] Tryz.func214 (by kernel_rfl) (fun x => by kernel_rfl)
theorem scarfjointref22_Measure.good : ∀ k : Nat, G 215 ⟨[(HN 12)], [HI, HI], fun x => scarfjointref22_Measure k x.1⟩
 | 0 => dB Tryz.func215 (c := eF Tryz.f215) (by kernel_rfl) (by kernel_rfl) fun _ => rfl
 | k + 1 => by
  have h := scarfjointref22_Measure.good k
  have c := cf (h) cn
  have l := ln c Tryz.f215 [] (by kernel_rfl)
  have l := lc c l [] 0 ⟨[1, 4, 5, 6], [(.boxh (.nm 12) (HN 12)), HI, HI, HI]⟩ [(.exit 0, ⟨[1, 4, 5], [(.boxh (.nm 12) (HN 12)), HI, HI]⟩)] (fun n x => scarfjointref22_Measure.l0 (scarfjointref22_Measure k) x.1 n x.2.1 x.2.2.1 x.2.2.2.1) (fun x => k) (fun x => by kernel_rfl) (fun n x => by kernel_rfl) (by kernel_rfl)
  exact fo c l [] Tryz.func215 (by kernel_rfl) (fun x => by kernel_rfl)
theorem c8.good (k : Nat) : G 168 ⟨[(HN 12)], [HI], fun x => c8 k x.1⟩ := f0 (cf (scarfjointref22_allRight.good k) (cf (scarfjointref22_Measure.good k) cn)) [] [(4, [(18, .bool)])] Tryz.func168 (by kernel_rfl) fun x => by kernel_rfl
theorem scarfjointref22_occurs.good (k : Nat) : G 262 ⟨[(HN 9), HI], [HB], fun x => scarfjointref22_occurs k x.1 x.2.1⟩ := by
 have c := cn
 have l := ln c Tryz.f262 [] (by kernel_rfl)
 have l := lc c l [] 0 ⟨[1, 2, 5], [HI, (.boxh (.nm 9) (HN 9)), HI]⟩ [(.exit 0, ⟨[], []⟩), (.ret, ⟨[4], [HB]⟩)] (fun n x => scarfjointref22_occurs.l0 x.1 x.2.1 n x.2.2.1) (fun x => k) (fun x => by kernel_rfl) (fun n x => by kernel_rfl) (by kernel_rfl)
 exact fo c l [] Tryz.func262 (by kernel_rfl) (fun x => by kernel_rfl)
theorem scarfjointref22_inner.good (k : Nat) : G 216 ⟨[(HN 3), HI, (HN 9)], [HI], fun x => scarfjointref22_inner k x.1 x.2.1 x.2.2.1⟩ := by
 have c := cf (scarfjointref21_Valid.good k) (cf (scarfjointref22_occurs.good k) cn)
 have l := ln c Tryz.f216 [] (by kernel_rfl)
 have l := lc c l [] 0 ⟨[5, 7, 8], [(.boxh (.nm 9) (HN 9)), HI, HI]⟩ [(.exit 0, ⟨[], []⟩), (.ret, ⟨[6], [HI]⟩)] (fun n x => scarfjointref22_inner.l0 k x.1 x.2.1 n x.2.2.1) (fun x => k) (fun x => by kernel_rfl) (fun n x => by kernel_rfl) (by kernel_rfl)
 exact fo c l [] Tryz.func216 (by kernel_rfl) (fun x => by kernel_rfl)
theorem bU.good (k : Nat) : G 217 ⟨[(HN 5), (HN 5), (HN 11)], [HB], fun x => bU k x.1 x.2.1 x.2.2.1⟩ := f0 (cf (scarfjointref06_Distinct.good k) (cf (scarfjointref06_Valid.good k) cn)) [] [(1, [(6, .bool)])] Tryz.func217 (by kernel_rfl) fun x => by kernel_rfl
theorem scarfjointref22_over.good : ∀ k : Nat, G 169 ⟨[(HN 3), (HN 9), (HN 12)], [HI], fun x => scarfjointref22_over k x.1 x.2.1 x.2.2.1⟩
 | 0 => dB Tryz.func169 (c := eF Tryz.f169) (by kernel_rfl) (by kernel_rfl) fun _ => rfl
 | k + 1 => by
  have h := scarfjointref22_over.good k
  have c := cf (scarfjointref06_Valid.good k) (cf (h) (cf (scarfjointref22_inner.good k) (cf (bU.good k) cn)))
  have l := ln c Tryz.f169 [] (by kernel_rfl)
  have l := lc c l [] 0 ⟨[3, 5, 7, 10], [(.boxh (.nm 3) (HN 3)), (.boxh (.nm 12) (HN 12)), (.boxh (.nm 9) (HN 9)), HI]⟩ [(.exit 0, ⟨[], []⟩), (.ret, ⟨[6], [HI]⟩)] (fun n x => scarfjointref22_over.l0 (scarfjointref22_over k) x.1 x.2.1 x.2.2.1 n x.2.2.2.1) (fun x => k) (fun x => by kernel_rfl) (fun n x => by kernel_rfl) (by kernel_rfl)
  exact fo c l [] Tryz.func169 (by kernel_rfl) (fun x => by kernel_rfl)
theorem bZ.good (k : Nat) : G 131 ⟨[(HN 3), (HN 9), (HN 12)], [HI], fun x => bZ k x.1 x.2.1 x.2.2.1⟩ := f0 (cf (scarfjointref21_Valid.good k) (cf (c8.good k) (cf (scarfjointref22_over.good k) cn))) [] [] Tryz.func131 (by kernel_rfl) fun x => by kernel_rfl
theorem bp.good (k : Nat) : G 92 ⟨[(HN 3), (HN 13)], [HI], fun x => bp k x.1 x.2.1⟩ := f0 (cf (scarfjointref04_Valid.good k) (cf (aV.good k) (cf (ay.good k) (cf (scarfjointref21_Valid.good k) (cf (scarfjointref24_right.good k) (cf (cq.good k) (cf (scarfjointref06_Distinct.good k) (cf (scarfjointref24_proper.good k) (cf (bZ.good k) cn))))))))) [] [(15, [(53, .bool)])] Tryz.func92 (by kernel_rfl) fun x => by kernel_rfl
theorem bL.good (k : Nat) : G 93 ⟨[(HN 13)], [RI, RI], fun x => bL k x.1⟩ := f0 (cf (scarfjointref24_rest.good k) cn) [] [] Tryz.func93 (by kernel_rfl) fun x => by kernel_rfl
theorem aW.good (k : Nat) : G 64 ⟨[(HN 3), (HN 13)], [RI, RI, HI], fun x => aW k x.1 x.2.1⟩ := f0 (cf (bp.good k) (cf (bL.good k) cn)) [] [] Tryz.func64 (by kernel_rfl) fun x => by kernel_rfl
theorem scarfjointref04_Below.good (k : Nat) : G 65 ⟨[(HN 3), HI], [RI, HI], fun x => scarfjointref04_Below k x.1 x.2.1⟩ := by
 have c := cf (aN.good k) (cf (ax.good k) cn)
 have l := ln c Tryz.f65 [] (by kernel_rfl)
 have l := lc c l [] 0 ⟨[1, 2, 7, 8], [HI, (.boxh (.nm 3) (HN 3)), RI, HI]⟩ [(.exit 0, ⟨[7], [RI]⟩)] (fun n x => scarfjointref04_Below.l0 k x.1 x.2.1 n x.2.2.1 x.2.2.2.1) (fun x => k) (fun x => by kernel_rfl) (fun n x => by kernel_rfl) (by kernel_rfl)
 exact fo c l [] Tryz.func65 (by kernel_rfl) (fun x => by kernel_rfl)
theorem scarfjointref40_Given.good (k : Nat) : G 34 ⟨[(HN 3), (HL (.nm 13))], [HI], fun x => scarfjointref40_Given k x.1 x.2.1⟩ := by
 have c := cf (scarfjointref04_Valid.good k) (cf (aW.good k) (cf (scarfjointref04_Below.good k) cn))
 have l := ln c Tryz.f34 [] (by kernel_rfl)
 have l := lc c l [] 2 ⟨[1, 2, 7, 8, 11], [(HL (.nm 13)), (.boxh (.nm 3) (HN 3)), HI, RI, HI]⟩ [(.exit 2, ⟨[1, 2, 7], [(HL (.nm 13)), (.boxh (.nm 3) (HN 3)), HI]⟩), (.ret, ⟨[4], [HI]⟩)] (fun n x => scarfjointref40_Given.l2 k x.1 x.2.1 x.2.2.1 x.2.2.2.1 n x.2.2.2.2.1) (fun x => k) (fun x => by kernel_rfl) (fun n x => by kernel_rfl) (by kernel_rfl)
 have l := lc c l [] 0 ⟨[1, 2, 7], [(HL (.nm 13)), (.boxh (.nm 3) (HN 3)), HI]⟩ [(.exit 0, ⟨[], []⟩), (.ret, ⟨[4], [HI]⟩)] (fun n x => scarfjointref40_Given.l0 k n x.1 x.2.1 x.2.2.1) (fun x => k) (fun x => by kernel_rfl) (fun n x => by kernel_rfl) (by kernel_rfl)
 exact fo c l [] Tryz.func34 (by kernel_rfl) (fun x => by kernel_rfl)
theorem scarfjointref40_places.good (k : Nat) : G 66 ⟨[(HN 3), (HN 5), (HL (.int .i64)), (HL (.int .i64))], [RI], fun x => scarfjointref40_places k x.1 x.2.1 x.2.2.1 x.2.2.2.1⟩ := by
 have c := cn
 have l := ln c Tryz.f66 [] (by kernel_rfl)
 have l := lc c l [(13, [(11, .bool)]), (9, [(11, .bool)])] 2 ⟨[2, 3, 4, 5, 9, 10, 11, 12], [(HL (.int .i64)), (HL (.int .i64)), (.boxh (.nm 3) (HN 3)), (.boxh (.nm 5) (HN 5)), RI, HI, HB, HI]⟩ [(.exit 2, ⟨[2, 3, 4, 5, 9, 10, 11], [(HL (.int .i64)), (HL (.int .i64)), (.boxh (.nm 3) (HN 3)), (.boxh (.nm 5) (HN 5)), RI, HI, HB]⟩)] (fun n x => scarfjointref40_places.l2 x.1 x.2.1 x.2.2.1 x.2.2.2.1 x.2.2.2.2.1 x.2.2.2.2.2.1 n x.2.2.2.2.2.2.1 x.2.2.2.2.2.2.2.1) (fun x => k) (fun x => by kernel_rfl) (fun n x => by kernel_rfl) (by kernel_rfl)
 have l := lc c l [(13, [(11, .bool)]), (9, [(11, .bool)])] 4 ⟨[2, 3, 4, 5, 9, 10, 11, 13], [(HL (.int .i64)), (HL (.int .i64)), (.boxh (.nm 3) (HN 3)), (.boxh (.nm 5) (HN 5)), RI, HI, HB, HI]⟩ [(.exit 4, ⟨[2, 3, 4, 5, 9, 10, 11], [(HL (.int .i64)), (HL (.int .i64)), (.boxh (.nm 3) (HN 3)), (.boxh (.nm 5) (HN 5)), RI, HI, HB]⟩)] (fun n x => scarfjointref40_places.l4 x.1 x.2.1 x.2.2.1 x.2.2.2.1 x.2.2.2.2.1 x.2.2.2.2.2.1 n x.2.2.2.2.2.2.1 x.2.2.2.2.2.2.2.1) (fun x => k) (fun x => by kernel_rfl) (fun n x => by kernel_rfl) (by kernel_rfl)
 have l := lc c l [(13, [(11, .bool)]), (9, [(11, .bool)])] 0 ⟨[2, 3, 4, 5, 9, 10], [(HL (.int .i64)), (HL (.int .i64)), (.boxh (.nm 3) (HN 3)), (.boxh (.nm 5) (HN 5)), RI, HI]⟩ [(.exit 0, ⟨[9], [RI]⟩)] (fun n x => scarfjointref40_places.l0 k n x.1 x.2.1 x.2.2.1 x.2.2.2.1 x.2.2.2.2.1 x.2.2.2.2.2.1) (fun x => k) (fun x => by kernel_rfl) (fun n x => by kernel_rfl) (by kernel_rfl)
 exact fo c l [(13, [(11, .bool)]), (9, [(11, .bool)])] Tryz.func66 (by kernel_rfl) (fun x => by kernel_rfl)
theorem aI.good (k : Nat) : G 35 ⟨[(HN 3), (HN 13)], [RI], fun x => aI k x.1 x.2.1⟩ := f0 (cf (aW.good k) (cf (scarfjointref40_places.good k) cn)) [] [] Tryz.func35 (by kernel_rfl) fun x => by kernel_rfl
theorem bK.good (k : Nat) : G 75 ⟨[(HN 3), (HN 13)], [RI, RI, HI], fun x => bK k x.1 x.2.1⟩ := f0 (cf (bp.good k) (cf (aV.good k) cn)) [] [] Tryz.func75 (by kernel_rfl) fun x => by kernel_rfl
theorem bx.good (k : Nat) : G 49 ⟨[(HN 3), (HN 13)], [RI], fun x => bx k x.1 x.2.1⟩ := f0 (cf (scarfjointref40_places.good k) (cf (bK.good k) cn)) [] [] Tryz.func49 (by kernel_rfl) fun x => by kernel_rfl
theorem scarfjointref40_demands.good (k : Nat) : G 36 ⟨[(HN 3), (HL (.nm 13))], [(RN 14)], fun x => scarfjointref40_demands k x.1 x.2.1⟩ := by
 have c := cf (aI.good k) (cf (bx.good k) cn)
 have l := ln c Tryz.f36 [] (by kernel_rfl)
 have l := lc c l [] 4 ⟨[1, 2, 5, 6, 7, 8, 9, 10], [(HL (.nm 13)), (.boxh (.nm 3) (HN 3)), (RN 14), HI, RI, RI, HI, HI]⟩ [(.exit 4, ⟨[1, 2, 5, 6, 7, 8, 9], [(HL (.nm 13)), (.boxh (.nm 3) (HN 3)), (RN 14), HI, RI, RI, HI]⟩)] (fun n x => scarfjointref40_demands.l4 x.1 x.2.1 x.2.2.2.1 x.2.2.2.2.1 x.2.2.2.2.2.1 x.2.2.2.2.2.2.1 n x.2.2.1 x.2.2.2.2.2.2.2.1) (fun x => k) (fun x => by kernel_rfl) (fun n x => by kernel_rfl) (by kernel_rfl)
 have l := lc c l [] 2 ⟨[1, 2, 5, 6, 7, 8, 9], [(HL (.nm 13)), (.boxh (.nm 3) (HN 3)), (RN 14), HI, RI, RI, HI]⟩ [(.exit 2, ⟨[1, 2, 5, 6], [(HL (.nm 13)), (.boxh (.nm 3) (HN 3)), (RN 14), HI]⟩)] (fun n x => scarfjointref40_demands.l2 k n x.1 x.2.1 x.2.2.1 x.2.2.2.1 x.2.2.2.2.1 x.2.2.2.2.2.1 x.2.2.2.2.2.2.1) (fun x => k) (fun x => by kernel_rfl) (fun n x => by kernel_rfl) (by kernel_rfl)
 have l := lc c l [] 0 ⟨[1, 2, 5, 6], [(HL (.nm 13)), (.boxh (.nm 3) (HN 3)), (RN 14), HI]⟩ [(.exit 0, ⟨[5], [(RN 14)]⟩)] (fun n x => scarfjointref40_demands.l0 k n x.1 x.2.1 x.2.2.1 x.2.2.2.1) (fun x => k) (fun x => by kernel_rfl) (fun n x => by kernel_rfl) (by kernel_rfl)
 exact fo c l [] Tryz.func36 (by kernel_rfl) (fun x => by kernel_rfl)
theorem scarfjointref40_has.good (k : Nat) : G 67 ⟨[(HL (.int .i64)), HI], [HB], fun x => scarfjointref40_has k x.1 x.2.1⟩ := by
 have c := cn
 have l := ln c Tryz.f67 [] (by kernel_rfl)
 have l := lc c l [] 0 ⟨[0, 1, 5], [(HL (.int .i64)), HI, HI]⟩ [(.exit 0, ⟨[], []⟩), (.ret, ⟨[4], [HB]⟩)] (fun n x => scarfjointref40_has.l0 x.1 x.2.1 n x.2.2.1) (fun x => k) (fun x => by kernel_rfl) (fun n x => by kernel_rfl) (by kernel_rfl)
 exact fo c l [] Tryz.func67 (by kernel_rfl) (fun x => by kernel_rfl)
theorem scarfjointref40_reaches.good (k : Nat) : G 37 ⟨[(HL (.nm 14)), HI, HI, HI], [HB], fun x => scarfjointref40_reaches k x.1 x.2.1 x.2.2.1 x.2.2.2.1⟩ := by
 have c := cf (scarfjointref40_has.good k) cn
 have l := ln c Tryz.f37 [] (by kernel_rfl)
 have l := lc c l [(9, [(42, .bool)])] 2 ⟨[0, 2, 3, 9, 10, 11, 12], [(HL (.nm 14)), HI, HI, RI, HI, RI, HI]⟩ [(.exit 2, ⟨[0, 2, 3, 10, 11], [(HL (.nm 14)), HI, HI, HI, RI]⟩)] (fun n x => scarfjointref40_reaches.l2 k x.1 x.2.1 x.2.2.1 x.2.2.2.1 x.2.2.2.2.1 n x.2.2.2.2.2.1 x.2.2.2.2.2.2.1) (fun x => k) (fun x => by kernel_rfl) (fun n x => by kernel_rfl) (by kernel_rfl)
 have l := lc c l [(9, [(42, .bool)])] 0 ⟨[0, 2, 3, 9, 10], [(HL (.nm 14)), HI, HI, RI, HI]⟩ [(.exit 0, ⟨[2, 9], [HI, RI]⟩)] (fun n x => scarfjointref40_reaches.l0 k n x.1 x.2.1 x.2.2.1 x.2.2.2.1 x.2.2.2.2.1) (fun x => k) (fun x => by kernel_rfl) (fun n x => by kernel_rfl) (by kernel_rfl)
 exact fo c l [(9, [(42, .bool)])] Tryz.func37 (by kernel_rfl) (fun x => by kernel_rfl)
end Go.Ev
end
section
open Go.Proofs
namespace Go.Ev
theorem scarfjointref40_chain.good : ∀ k : Nat, G 38 ⟨[(HL (.nm 14)), HI, HI, HI], [(RN 14)], fun x => scarfjointref40_chain k x.1 x.2.1 x.2.2.1 x.2.2.2.1⟩
 | 0 => dB Tryz.func38 (c := eF Tryz.f38) (by kernel_rfl) (by kernel_rfl) fun _ => rfl
 | k + 1 => by
  have h := scarfjointref40_chain.good k
  have c := cf (scarfjointref40_reaches.good k) (cf (h) cn)
  have l := ln c Tryz.f38 [] (by kernel_rfl)
  have l := lc c l [] 0 ⟨[0, 1, 2, 3, 9], [(HL (.nm 14)), HI, HI, HI, HI]⟩ [(.exit 0, ⟨[], []⟩), (.ret, ⟨[8], [(RN 14)]⟩)] (fun n x => scarfjointref40_chain.l0 k (scarfjointref40_chain k) x.1 x.2.1 x.2.2.1 x.2.2.2.1 n x.2.2.2.2.1) (fun x => k) (fun x => by kernel_rfl) (fun n x => by kernel_rfl) (by kernel_rfl)
  exact fo c l [] Tryz.func38 (by kernel_rfl) (fun x => by kernel_rfl)
theorem scarfjointref40_Reason.good (k : Nat) : G 12 ⟨[(HN 3), (HL (.nm 13))], [(RN 14), HI], fun x => scarfjointref40_Reason k x.1 x.2.1⟩ := by
 have c := cf (scarfjointref40_Given.good k) (cf (aI.good k) (cf (scarfjointref40_demands.good k) (cf (scarfjointref40_reaches.good k) (cf (scarfjointref40_chain.good k) cn))))
 have l := ln c Tryz.f12 [] (by kernel_rfl)
 have l := lc c l [] 0 ⟨[1, 2, 7], [(HL (.nm 13)), (.boxh (.nm 3) (HN 3)), HI]⟩ [(.exit 0, ⟨[1, 2], [(HL (.nm 13)), (.boxh (.nm 3) (HN 3))]⟩), (.ret, ⟨[4, 5], [(RN 14), HI]⟩)] (fun n x => scarfjointref40_Reason.l0 k x.1 x.2.1 n x.2.2.1) (fun x => k) (fun x => by kernel_rfl) (fun n x => by kernel_rfl) (by kernel_rfl)
 have l := lc c l [] 4 ⟨[2, 8, 9, 10], [(.boxh (.nm 3) (HN 3)), (RN 14), HI, HI]⟩ [(.exit 4, ⟨[2, 8, 9], [(.boxh (.nm 3) (HN 3)), (RN 14), HI]⟩), (.ret, ⟨[4, 5], [(RN 14), HI]⟩)] (fun n x => scarfjointref40_Reason.l4 k x.1 x.2.1 x.2.2.1 n x.2.2.2.1) (fun x => k) (fun x => by kernel_rfl) (fun n x => by kernel_rfl) (by kernel_rfl)
 have l := lc c l [] 2 ⟨[2, 8, 9], [(.boxh (.nm 3) (HN 3)), (RN 14), HI]⟩ [(.exit 2, ⟨[], []⟩), (.ret, ⟨[4, 5], [(RN 14), HI]⟩)] (fun n x => scarfjointref40_Reason.l2 k n x.1 x.2.1 x.2.2.1) (fun x => k) (fun x => by kernel_rfl) (fun n x => by kernel_rfl) (by kernel_rfl)
 exact fo c l [] Tryz.func12 (by kernel_rfl) (fun x => by kernel_rfl)
theorem api_Demand_70.good (k : Nat) : G 70 ⟨[(HL (.nm 14)), (HN 14)], [HI], fun x => api_Demand_70 x.1 x.2.1⟩ := by
 have c := cn
 have l := ln c Tryz.f70 [] (by kernel_rfl)
 have l := lc c l [] 0 ⟨[0, 3, 7, 8], [(HL (.nm 14)), (.boxh (.nm 14) (HN 14)), HI, HI]⟩ [(.exit 0, ⟨[], []⟩), (.ret, ⟨[4], [HI]⟩)] (fun n x => api_Demand_70.l0 x.1 x.2.1 x.2.2.1 n x.2.2.2.1) (fun x => (Int.toNat x.2.2.1 + 1)) (fun x => by kernel_rfl) (fun n x => by kernel_rfl) (by kernel_rfl)
 exact fo c l [] Tryz.func70 (by kernel_rfl) (fun x => by kernel_rfl)
theorem fH.good (k : Nat) : G 40 ⟨[(HL (.nm 14)), (HN 14)], [HB], fun x => fH x.1 x.2.1⟩ := f0 (cf (api_Demand_70.good k) cn) [] [] Tryz.func40 (by kernel_rfl) fun x => by kernel_rfl
theorem layering_CheckReason.good (k : Nat) : G 15 ⟨[(HN 3), (HL (.nm 13)), (HL (.nm 14))], [HB], fun x => layering_CheckReason k x.1 x.2.1 x.2.2.1⟩ := by
 have c := cf (layering_given.good k) (cf (layering_demands.good k) (cf (fH.good k) cn))
 have l := ln c Tryz.f15 [] (by kernel_rfl)
 have l := lc c l [(12, [(97, .bool)]), (6, [(6, .bool)]), (5, [(42, .bool)]), (2, [(31, .bool)])] 0 ⟨[10, 11, 82, 83, 84], [(RN 14), HI, (HL (.nm 14)), HI, HI]⟩ [(.exit 0, ⟨[], []⟩), (.ret, ⟨[6], [HB]⟩)] (fun n x => layering_CheckReason.l0 x.1 x.2.2.1 x.2.2.2.1 n x.2.1 x.2.2.2.2.1) (fun x => (Int.toNat x.2.2.2.1 + 1)) (fun x => by kernel_rfl) (fun n x => by kernel_rfl) (by kernel_rfl)
 exact fo c l [(12, [(97, .bool)]), (6, [(6, .bool)]), (5, [(42, .bool)]), (2, [(31, .bool)])] Tryz.func15 (by kernel_rfl) (fun x => by kernel_rfl)
theorem aK.good (k : Nat) : G 3 ⟨[(HN 3), (HL (.nm 13))], [HB], fun x => aK k x.1 x.2.1⟩ := f0 (cf (bH.good k) (cf (scarfjointref40_Few.good k) (cf (cK.good k) (cf (lib11.good k) (cf (scarfjointref40_Reason.good k) (cf (api_Demand_13.good k) (cf (cQ.good k) (cf (layering_CheckReason.good k) cn)))))))) [] [(10, [(4, .bool)]), (5, [(41, .bool)]), (1, [(18, .bool)])] Tryz.func3 (by kernel_rfl) fun x => by kernel_rfl
end Go.Ev
end
section
open Go.Proofs
namespace Go.Ev
end Go.Ev
end
section
set_option linter.unusedVariables false
namespace Go.Ev.Pl
theorem jE {n : Int} (h : -9223372036854775808 ≤ n) (h' : n ≤ 9223372036854775807) : IntKind.i64.wrap n = n := by
 simp only [IntKind.wrap, IntKind.bits, IntKind.signed, Bool.true_and]
 split <;> rename_i h3 <;> simp at h3 <;> omega
theorem wS {i : Nat} (h : i < 4611686018427387904) : IntKind.i64.wrap ((i : Int) + 1) = ((i + 1 : Nat) : Int) := by
 rw [jE (by omega) (by omega)]; omega
theorem zW (a b : Bool) : cond a (some (true, ())) (some (b, ())) = some (a || b, ()) := by cases a <;> rfl
theorem qV (a b : Bool) : cond a (some (b, ())) (some (false, ())) = some (a && b, ()) := by cases a <;> rfl
theorem wW {α : Type} (a : Bool) (x y : α) : cond a (some x) (some y) = some (cond a x y) := by cases a <;> rfl
theorem eY {α : Type} (a : Bool) (x y : α) : cond a (some (x, ())) (some (y, ())) = some (cond a x y, ()) := by cases a <;> rfl
theorem jO (a b : Bool) : cond a b false = (a && b) := by cases a <;> rfl
theorem iM (a b : Bool) : cond a true b = (a || b) := by cases a <;> rfl
theorem idx_some {α : Type} {l : List α} {i : Nat} {x : α} (h : l[i]? = some x) : aB l (i : Int) = some x := by
 simp [aB, nth, h]
theorem pd {α : Type} {l : List α} {i : Nat} (h : i < l.length) : aB l (i : Int) = some l[i] := idx_some (List.getElem?_eq_getElem h)
theorem bl {α : Type} {l : List α} {i : Int} (h : 0 ≤ i) (h' : i < l.length) : ∃ x, aB l i = some x ∧ l[i.toNat]? = some x ∧ x ∈ l := by
 have : i.toNat < l.length := by omega
 exact ⟨l[i.toNat], by simp [aB, nth, h, this], by simp [this], by simp⟩
def ce {B : Type} (g : Nat → Option B) : Nat → Nat → Option B
 | _, 0 => none
 | i, c + 1 => match g i with | some b => some b | none => ce g (i + 1) c
theorem li {A B : Type} {F : Nat → Int → Option (Sum A B)} (N : Nat) (a : A) (g : Nat → Option B) (i0 : Nat)
  (hN : ∀ n (i : Nat), N ≤ i → F (n + 1) (i : Int) = some (.inl a))
  (hS : ∀ n (i : Nat), i0 ≤ i → i < N → (∀ j, i0 ≤ j → j < i → g j = none) → F (n + 1) (i : Int) = match g i with | some b => some (.inr b) | none => F n ((i + 1 : Nat) : Int))
  (fuel : Nat) (hf : N - i0 < fuel) : F fuel (i0 : Int) = some ((ce g i0 (N - i0)).elim (.inl a) .inr) := by
 suffices H : ∀ c i fuel, N - i = c → i0 ≤ i → N - i < fuel → (∀ j, i0 ≤ j → j < i → g j = none) → F fuel (i : Int) = some ((ce g i c).elim (.inl a) .inr) from
  H _ i0 fuel rfl (Nat.le_refl _) hf (fun j h h' => by omega)
 intro c
 induction c with
 | zero =>
  intro i fuel hc hi hf hp
  cases fuel with
  | zero => omega
  | succ n => rw [hN n i (by omega)]; rfl
 | succ c ih =>
  intro i fuel hc hi hf hp
  cases fuel with
  | zero => omega
  | succ n =>
   rw [hS n i hi (by omega) hp, ce]
   cases hg : g i with
   | some b => rfl
   | none =>
    exact ih (i + 1) n (by omega) (by omega) (by omega) fun j h1 h2 => by
     by_cases e : j = i
     ·subst e; exact hg
     ·exact hp j h1 (by omega)
theorem kX {B : Type} {g : Nat → Option B} : ∀ {c i : Nat}, ce g i c = none ↔ ∀ j, i ≤ j → j < i + c → g j = none
 | 0, i => by simp [ce]; intro j h1 h2; omega
 | c + 1, i => by
  rw [ce]
  cases hg : g i with
  | some b => simp only [reduceCtorEq, false_iff]; intro h; have := h i (Nat.le_refl _) (by omega); rw [hg] at this; cases this
  | none =>
   simp only []
   rw [kX]
   constructor
   ·intro h j h1 h2
    by_cases e : j = i
    ·subst e; exact hg
    ·exact h j (by omega) (by omega)
   ·intro h j h1 h2; exact h j (by omega) (by omega)
theorem cO {B : Type} {g : Nat → Option B} {b : B} : ∀ {c i : Nat}, ce g i c = some b → ∃ j, i ≤ j ∧ j < i + c ∧ g j = some b ∧ ∀ j', i ≤ j' → j' < j → g j' = none
 | 0, i, h => by simp [ce] at h
 | c + 1, i, h => by
  rw [ce] at h
  cases hg : g i with
  | some b' => rw [hg] at h; cases h; exact ⟨i, Nat.le_refl _, by omega, hg, fun j' h1 h2 => by omega⟩
  | none =>
   rw [hg] at h
   obtain ⟨j, h1, h2, h3, h4⟩ := cO h
   exact ⟨j, by omega, by omega, h3, fun j' h5 h6 => by
    by_cases e : j' = i
    ·subst e; exact hg
    ·exact h4 j' (by omega) h6⟩
theorem vd {α B : Type} (p : α → Bool) (b : B) (l : List α) (g : Nat → Option B) (h : ∀ j x, l[j]? = some x → g j = cond (p x) (some b) none) : ce g 0 l.length = cond (l.any p) (some b) none := by
 suffices H : ∀ (l : List α) (i : Nat), (∀ j x, l[j]? = some x → g (i + j) = cond (p x) (some b) none) → ce g i l.length = cond (l.any p) (some b) none from H l 0 (fun j x hx => by rw [Nat.zero_add]; exact h j x hx)
 intro l
 induction l with
 | nil => intro i h; rfl
 | cons x l ih =>
  intro i h
  rw [List.length_cons, ce, show g i = _ from h 0 x rfl, List.any_cons]
  cases hp : p x with
  | true => rfl
  | false =>
   simp only [cond_false, Bool.false_or]
   exact ih (i + 1) fun j y hy => by rw [show i + 1 + j = i + (j + 1) by omega]; exact h (j + 1) y (by simpa using hy)
def mb {α : Type} (q0 : List α) (q1 : (α × Unit) → Option Bool) (q2 : Int) : Nat → Int → Option (Sum Unit (Int × Unit))
 | 0, _ => none
 | n + 1, q3 =>
  cond (decide (q3 < q2))
  ((aB q0 q3).bind fun x3 =>
  (q1 (x3, ())).bind fun r4 =>
  cond r4
  (some (Sum.inr (q3, ())))
  (mb q0 q1 q2 n (IntKind.i64.wrap (q3 + (1 : Int)))))
  (some (Sum.inl (())))
def jk {α : Type} (a0 : List α) (a1 : (α × Unit) → Option Bool) : Option (Int × Unit) :=
  (mb a0 a1 (a0.length : Int) (Int.toNat (a0.length : Int) + 1) (0 : Int)).bind fun o5 =>
  aJ o5
  (fun y6 => some ((-1 : Int), ()))
  (fun z7 => some (z7.1, ()))
def gl {α : Type} (a0 : List α) (a1 : (α × Unit) → Option Bool) : Option (Bool × Unit) :=
  (jk a0 a1).bind fun r1 =>
  some ((decide (r1.1 ≥ (0 : Int))), ())
def Sm (n : Nat) : Prop := n ≤ 4611686018427387903
theorem oZ {α : Type} {l : List α} {q : (α × Unit) → Option Bool} {p : α → Bool} (hp : ∀ x ∈ l, q (x, ()) = some (p x)) (hl : Sm l.length) :
  mb l q (l.length : Int) (Int.toNat (l.length : Int) + 1) 0 = some ((ce (fun i => (l[i]?).bind fun x => cond (p x) (some ((i : Int), ())) none) 0 l.length).elim (.inl ()) .inr) := by
 refine li (F := mb l q (l.length : Int)) l.length () _ 0 (fun n i h => ?_) (fun n i _ h _ => ?_) _ (by omega)
 ·have : ¬ ((i : Int) < l.length) := by omega
  simp [mb, this]
 ·unfold Sm at hl
  have h2 : (i : Int) < l.length := by omega
  simp only [mb, h2, decide_true, cond_true, pd h, Option.bind_some, hp _ (List.getElem_mem h), List.getElem?_eq_getElem h, wS (show i < 4611686018427387904 by omega)]
  cases p l[i] <;> rfl
def tz (o : Option Nat) : Int := match o with | some i => (i : Int) | none => -1
theorem iV {α : Type} {l : List α} {q : (α × Unit) → Option Bool} {p : α → Bool} (hp : ∀ x ∈ l, q (x, ()) = some (p x)) (hl : Sm l.length) :
  jk l q = some (tz (l.findIdx? p), ()) := by
 rw [jk, oZ hp hl]
 have key : ∀ (l : List α) (k : Nat) (g : Nat → Option (Int × Unit)), (∀ i x, l[i]? = some x → g (k + i) = cond (p x) (some (((k + i : Nat) : Int), ())) none) →
   ce g k l.length = (l.findIdx? p).map fun i => (((k + i : Nat) : Int), ()) := by
  intro l
  induction l with
  | nil => intro k g h; rfl
  | cons x l ih =>
   intro k g h
   rw [List.length_cons, ce, show g k = _ from h 0 x rfl, List.findIdx?_cons]
   cases hx : p x with
   | true => rfl
   | false =>
    simp only [cond_false, Bool.false_eq_true, if_false, Option.map_map]
    rw [ih (k + 1) g fun i y hy => by rw [show k + 1 + i = k + (i + 1) by omega]; exact h (i + 1) y (by simpa using hy)]
    congr 1
    funext i
    simp only [Function.comp]
    congr 2
    omega
 rw [key l 0 _ fun i x hx => by simp [hx]]
 cases l.findIdx? p <;> simp [aJ, tz]
theorem bF {α : Type} {l : List α} {q : (α × Unit) → Option Bool} {p : α → Bool} (hp : ∀ x ∈ l, q (x, ()) = some (p x)) (hl : Sm l.length) :
  gl l q = some (l.any p, ()) := by
 rw [gl, iV hp hl]
 simp only [Option.bind_some, tz]
 cases h : l.findIdx? p with
 | none =>
  have : l.any p = false := by rw [List.findIdx?_eq_none_iff] at h; rw [List.any_eq_false]; simpa using h
  simp [this]
 | some i =>
  have : l.any p = true := by
   have := List.findIdx?_eq_some_iff_getElem.1 h
   obtain ⟨h1, h2, _⟩ := this
   exact List.any_eq_true.2 ⟨_, List.getElem_mem h1, h2⟩
  have h0 : (i : Int) ≥ 0 := by omega
  rw [this]
  simp [h0]
theorem yY : @da = @gl aZ := by kernel_rfl
theorem yy : @fZ = @gl bQ := by kernel_rfl
theorem AK : @eB = @gl bk := by kernel_rfl
theorem mU : @am = @gl Int := by kernel_rfl
theorem pu : @dn = @gl Edge := by kernel_rfl
theorem ug : @eO = @gl dR := by kernel_rfl
theorem yz : @bz = @gl af := by kernel_rfl
end Go.Ev.Pl
end
section
set_option linter.unusedVariables false
namespace Go.Ev.Pl
theorem zp (l : List ByteArray) (x : ByteArray) : aU l x = gl l (fun y => some (di x y.1)) := by kernel_rfl
theorem AX (l : List Int) (x : Int) : bA l x = gl l (fun y => some (x == y.1)) := by kernel_rfl
theorem AW (l : List Bool) (x : Bool) : ca l x = gl l (fun y => some (x == y.1)) := by kernel_rfl
theorem oP {l : List ByteArray} (x : ByteArray) (h : Sm l.length) : aU l x = some (l.any (di x), ()) := by
 rw [zp]; exact bF (p := di x) (fun _ _ => rfl) h
theorem tG {l : List Int} (x : Int) (h : Sm l.length) : bA l x = some (l.any (x == ·), ()) := by
 rw [AX]; exact bF (p := (x == ·)) (fun _ _ => rfl) h
theorem xZ {l : List Bool} (x : Bool) (h : Sm l.length) : ca l x = some (l.any (x == ·), ()) := by
 rw [AW]; exact bF (p := (x == ·)) (fun _ _ => rfl) h
def qQ (c : Int) : Bool := decide (c ≥ 97) && decide (c ≤ 122) || decide (c ≥ 65) && decide (c ≤ 90)
def s8 (c : Int) : Bool := decide (c ≥ 48) && decide (c ≤ 57)
def rN (c : Int) : Bool := qQ c || s8 c || c == 95
theorem jp (c : Int) : dP c = some (qQ c, ()) := by
 simp only [dP, qQ]
 cases decide (c ≥ 97) <;> cases decide (c ≤ 122) <;> cases decide (c ≥ 65) <;> cases decide (c ≤ 90) <;> rfl
theorem kZ (c : Int) : bD c = some (qQ c, ()) := jp c
theorem je (c : Int) : cU c = some (s8 c, ()) := by
 simp only [cU, s8, qV, Option.bind_some]
theorem m6 (c : Int) : aS c = some (s8 c, ()) := je c
theorem ya (c : Int) : ff c = some (rN c, ()) := by
 simp only [ff, jp, je, Option.bind_some, rN, zW]
 rw [Bool.or_assoc]
def bs (s : ByteArray) : List Int := s.data.toList.map fun b => (b.toNat : Int)
theorem iD (s : ByteArray) : (bs s).length = s.size := by
 show (s.data.toList.map _).length = s.data.size
 simp
theorem lv (s : ByteArray) (i : Nat) : kv s (i : Int) = (bs s)[i]? := by
 simp [kv, bs]
def iQ (p : Int → Bool) (s : ByteArray) : Nat := ((bs s).takeWhile p).length
theorem tS {α : Type} (p : α → Bool) : ∀ (l : List α) (i : Nat), (∀ j x, j < i → l[j]? = some x → p x = true) → i ≤ l.length → (l.takeWhile p).length = i + ((l.drop i).takeWhile p).length
 | l, 0, _, _ => by simp
 | [], i + 1, _, h => by simp at h
 | x :: l, i + 1, h, hl => by
  have hx := h 0 x (by omega) rfl
  have := tS p l i (fun j y hj hy => h (j + 1) y (by omega) (by simpa using hy)) (by simpa using hl)
  simp [hx, this]; omega
theorem tC {p : Int → Bool} {s : ByteArray} {F : Nat → Int → Option (Int × Unit)} (hl : Sm s.size)
  (h0 : ∀ n, F (n + 1) (s.size : Int) = some ((s.size : Int), ()))
  (h1 : ∀ n (i : Nat) c, (bs s)[i]? = some c → F (n + 1) (i : Int) = cond (p c) (F n ((i + 1 : Nat) : Int)) (some ((i : Int), ()))) :
  ∀ fuel, s.size < fuel → F fuel 0 = some ((iQ p s : Int), ()) := by
 suffices H : ∀ (fuel i : Nat), i ≤ s.size → s.size - i < fuel → (∀ j x, j < i → (bs s)[j]? = some x → p x = true) → F fuel (i : Int) = some ((iQ p s : Int), ()) from
  fun fuel hf => H fuel 0 (by omega) (by omega) (fun j x h => by omega)
 intro fuel
 induction fuel with
 | zero => intro i h h'; omega
 | succ n ih =>
  intro i hi hf hp
  have hr := tS p (bs s) i hp (by rw [iD]; exact hi)
  by_cases e : i = s.size
  ·subst e
   rw [h0 n]
   have : (bs s).drop s.size = [] := by rw [← iD]; simp
   rw [this] at hr
   simp only [List.takeWhile_nil, List.length_nil, Nat.add_zero] at hr
   rw [iQ, hr]
  ·have hlt : i < (bs s).length := by rw [iD]; omega
   have hg : (bs s)[i]? = some (bs s)[i] := by simp [hlt]
   rw [h1 n i _ hg]
   rw [List.drop_eq_getElem_cons hlt, List.takeWhile_cons] at hr
   cases hc : p (bs s)[i] with
   | true =>
    exact ih (i + 1) (by omega) (by omega) fun j x hj hx => by
     by_cases e2 : j = i
     ·subst e2; rw [hg] at hx; cases hx; exact hc
     ·exact hp j x (by omega) hx
   | false =>
    rw [hc] at hr
    simp only [Bool.false_eq_true, if_false, List.length_nil, Nat.add_zero] at hr
    rw [iQ, hr]; rfl
theorem su {k : Nat} {s : ByteArray} {q : (Int × Unit) → Option Bool} {p : Int → Bool} (hp : ∀ c, q (c, ()) = some (p c)) (hl : Sm s.size) (hk : s.size < k) : token_run k s q = some ((iQ p s : Int), ()) := by
 rw [token_run, tC (p := p) (s := s) (F := token_run.l0 s q) hl (fun n => ?_) (fun n i c hc => ?_) k hk]
 ·rfl
 ·simp [token_run.l0]
 ·have h2 : i < s.size := by have := List.getElem?_eq_some_iff.1 hc; rw [← iD]; exact this.1
  have h3 : (i : Int) < s.size := by omega
  unfold Sm at hl
  simp only [token_run.l0, h3, decide_true, cond_true, lv, hc, Option.bind_some, hp, wS (show i < 4611686018427387904 by omega)]
theorem uO {k : Nat} {s : ByteArray} (b : Bool) (hl : Sm s.size) (hk : s.size < k) : scarfjointref01_run k s 0 b = some ((iQ (fun c => s8 c || !b && (qQ c || c == 95)) s : Int), ()) := by
 have hw : ∀ i : Nat, i < 4611686018427387904 → IntKind.i64.wrap (0 + (i : Int)) = (i : Int) := fun i h => by rw [jE (by omega) (by omega)]; omega
 rw [scarfjointref01_run, tC (p := fun c => s8 c || !b && (qQ c || c == 95)) (s := s) (F := scarfjointref01_run.l0 s 0 b) hl (fun n => ?_) (fun n i c hc => ?_) k hk]
 ·rfl
 ·unfold Sm at hl
  simp only [scarfjointref01_run.l0, hw _ (show s.size < 4611686018427387904 by omega)]
  simp
 ·have h2 : i < s.size := by have := List.getElem?_eq_some_iff.1 hc; rw [← iD]; exact this.1
  have h3 : (i : Int) < s.size := by omega
  unfold Sm at hl
  simp only [scarfjointref01_run.l0, hw i (by omega), h3, decide_true, cond_true, lv, hc, Option.bind_some, m6, kZ, zW, qV, wS (show i < 4611686018427387904 by omega)]
def jd (s : ByteArray) : Bool := match (bs s)[0]? with | none => false | some c => qQ c && decide (iQ rN s ≤ 20) && (iQ rN s == s.size)
theorem rj (s : ByteArray) : di s (⟨#[]⟩ : ByteArray) = (s.size == 0) := by
 obtain ⟨⟨l⟩⟩ := s
 cases l <;> simp [di, ByteArray.size]
theorem zf {s : ByteArray} (h : 0 < s.size) : ∃ c, kv s 0 = some c ∧ (bs s)[0]? = some c := by
 have h' : 0 < (bs s).length := by rw [iD]; exact h
 refine ⟨(bs s)[0], ?_, by simp [h']⟩
 rw [show (0 : Int) = ((0 : Nat) : Int) from rfl, lv]; simp [h']
theorem Bl {c : Int} (h : qQ c = true) : s8 c = false := by
 simp only [qQ, s8, Bool.or_eq_true, Bool.and_eq_true, decide_eq_true_eq, Bool.and_eq_false_imp, decide_eq_false_iff_not] at *
 omega
theorem pF (p : Int → Bool) (s : ByteArray) : iQ p s ≤ s.size := by
 rw [← iD]; exact (List.takeWhile_sublist p).length_le
theorem vx {k : Nat} {s : ByteArray} (h : 0 < s.size) (hl : Sm s.size) (hk : s.size < k) : ∃ n e, fk k s = some (n, e, ()) := by
 have hs : (s.extract 1 s.size).size = s.size - 1 := by simp [ByteArray.size_extract]
 have hr := pF (fun c => decide (c ≥ 32) && (decide (c ≤ 126) && (c != 34))) (s.extract 1 s.size)
 have e1 : token_run k (s.extract 1 (Int.toNat (s.size : Int))) (fun z1 => eh z1.1) = some ((iQ (fun c => decide (c ≥ 32) && (decide (c ≤ 126) && (c != 34))) (s.extract 1 s.size) : Int), ()) := by
  rw [Int.toNat_natCast]
  refine su (fun c => ?_) (by unfold Sm at *; omega) (by omega)
  simp only [eh, qV, Option.bind_some]
 have hb : (decide (0 ≤ (1 : Int)) && decide ((1 : Int) ≤ (s.size : Int)) && decide ((s.size : Int) ≤ (s.size : Int))) = true := by simp; omega
 rw [fk, hb, cond_true, e1]
 generalize iQ (fun c => decide (c ≥ 32) && (decide (c ≤ 126) && (c != 34))) (s.extract 1 s.size) = r at *
 unfold Sm at hl
 have hw : IntKind.i64.wrap (1 + (r : Int)) = ((1 + r : Nat) : Int) := by rw [jE (by omega) (by omega)]; omega
 simp only [Option.bind_some, hw, lv]
 by_cases h1 : 1 + r = s.size
 ·have : (((1 + r : Nat) : Int) == (s.size : Int)) = true := by simp; omega
  rw [this]; exact ⟨_, _, rfl⟩
 ·have : (((1 + r : Nat) : Int) == (s.size : Int)) = false := by simp; omega
  have h2 : 1 + r < (bs s).length := by rw [iD]; omega
  simp only [this, cond_false, List.getElem?_eq_getElem h2, Option.bind_some]
  cases ((bs s)[1 + r] != 34) with
  | true => exact ⟨_, _, rfl⟩
  | false =>
   simp only [cond_false]
   cases decide ((r : Int) > 60) <;> exact ⟨_, _, rfl⟩
theorem yK (s : ByteArray) : ∃ b, gA s = some (b, ()) := by
 simp only [gA]
 by_cases h : (s.size : Int) ≥ 2
 ·have h' : (2 : Int) ≤ s.size := h
  simp only [h, h', decide_true, cond_true, Bool.and_true, Int.le_refl, show (0 : Int) ≤ 2 by omega]
  rw [oP _ (by simp [Sm])]
  exact ⟨_, rfl⟩
 ·simp only [h, decide_false, cond_false]; exact ⟨_, rfl⟩
theorem xJ {k : Nat} {s : ByteArray} {c : Int} (h0 : kv s 0 = some c) (hc : qQ c = false) (h : 0 < s.size) (hl : Sm s.size) (hk : s.size < k) : ∃ n m e, eL k s = some (n, m, e, ()) ∧ (n == 1) = false := by
 simp only [eL, h0, Option.bind_some, jp, je, hc, cond_false]
 cases s8 c with
 | true =>
  rw [cond_true, su (p := s8) (fun c => by simp [je]) hl hk]
  simp only [Option.bind_some]
  cases decide ((iQ s8 s : Int) > 9)
  ·exact ⟨_, _, _, rfl, rfl⟩
  ·exact ⟨_, _, _, rfl, rfl⟩
 | false =>
  rw [cond_false]
  cases (c == 34) with
  | true =>
   obtain ⟨n, e, h1⟩ := vx h hl hk
   rw [cond_true, h1]
   exact ⟨_, _, _, rfl, rfl⟩
  | false =>
   obtain ⟨b, h1⟩ := yK s
   rw [cond_false, h1]
   simp only [Option.bind_some]
   cases b with
   | true => exact ⟨_, _, _, rfl, rfl⟩
   | false =>
    simp only [cond_false, indexByte, Option.bind_some]
    cases decide (Lib.indexByte _ _ ≥ 0)
    ·exact ⟨_, _, _, rfl, rfl⟩
    ·exact ⟨_, _, _, rfl, rfl⟩
theorem Af {k : Nat} {s : ByteArray} (hl : Sm s.size) (hk : s.size < k) : bJ k s = some (jd s, ()) := by
 simp only [bJ, gV]
 rw [show ((1 : Int) == 3) = false from rfl, cond_false, rj]
 cases h0 : s.size == 0 with
 | true =>
  have : (bs s)[0]? = none := List.getElem?_eq_none (by rw [iD]; have := beq_iff_eq.1 h0; omega)
  simp [jd, this]
 | false =>
  have hpos : 0 < s.size := by have := beq_eq_false_iff_ne.1 h0; omega
  obtain ⟨c, h1, h2⟩ := zf hpos
  simp only [cond_false, eL, h1, Option.bind_some, jp, je, jd, h2]
  cases hL : qQ c with
  | true =>
   rw [cond_true, su (p := rN) (fun c => by simp [ya]) hl hk]
   simp only [Option.bind_some, Bool.true_and]
   by_cases h3 : iQ rN s ≤ 20
   ·have : ¬ ((iQ rN s : Int) > 20) := by omega
    simp only [this, h3, decide_true, decide_false, cond_false, Option.bind_some, Bool.true_and, beq_self_eq_true, cond_true]
    congr 2
    rw [Bool.eq_iff_iff]; simp; omega
   ·have : ((iQ rN s : Int) > 20) := by omega
    simp [this, h3]
  | false =>
   rw [cond_false]
   obtain ⟨n, m, e, g1, g2⟩ := xJ h1 hL hpos hl hk
   have g1' := g1
   simp only [eL, h1, Option.bind_some, jp, je, hL, cond_false] at g1'
   rw [g1']
   simp only [Option.bind_some, g2, cond_false]
   cases (e == 0) <;> rfl
theorem sj {k : Nat} {s : ByteArray} (h : 0 < s.size) (hl : Sm s.size) (hk : s.size < k) : ∃ n : Nat, scarfjointref01_quoted k s 0 = some ((n : Int), ()) ∧ (n = 0 ∨ 2 ≤ n ∧ n ≤ s.size) := by
 unfold Sm at hl
 have hw : ∀ i : Nat, i < 4611686018427387904 → IntKind.i64.wrap (0 + (i : Int)) = (i : Int) := fun i h => by rw [jE (by omega) (by omega)]; omega
 have := li (F := fun n i => cond (decide (i ≤ s.size)) (scarfjointref01_quoted.l0 s 0 n i) (cond (Nat.beq n 0) none (some (.inl ())))) s.size () (fun i => (bs s)[i]?.bind fun c => cond (c == 34) (some ((((i + 1 : Nat) : Int), ()) : Int × Unit)) (cond (decide (c < 32) || decide (c > 126)) (some (0, ())) none)) 1 (fun n i h => ?_) (fun n i _ h1 _ => ?_) k (by omega)
 ·rw [show ((1 : Nat) : Int) = 1 from rfl] at this
  have h1 : (1 : Int) ≤ s.size := by omega
  simp only [h1, decide_true, cond_true] at this
  rw [scarfjointref01_quoted, this]
  simp only [Option.bind_some]
  cases hf : ce (fun i => (bs s)[i]?.bind fun c => cond (c == 34) (some ((((i + 1 : Nat) : Int), ()) : Int × Unit)) (cond (decide (c < 32) || decide (c > 126)) (some (0, ())) none)) 1 (s.size - 1) with
  | none => exact ⟨0, rfl, .inl rfl⟩
  | some b =>
   obtain ⟨j, j1, j2, j3, _⟩ := cO hf
   obtain ⟨c, _, j5⟩ := Option.bind_eq_some_iff.1 j3
   cases hc : (c == 34) with
   | true => rw [hc, cond_true] at j5; cases j5; exact ⟨j + 1, rfl, .inr ⟨by omega, by omega⟩⟩
   | false =>
    rw [hc, cond_false] at j5
    cases hd : (decide (c < 32) || decide (c > 126)) with
    | true => rw [hd, cond_true] at j5; cases j5; exact ⟨0, rfl, .inl rfl⟩
    | false => rw [hd, cond_false] at j5; cases j5
 ·by_cases e : i = s.size
  ·subst e
   simp only [Int.le_refl, decide_true, cond_true, scarfjointref01_quoted.l0, hw _ (show s.size < 4611686018427387904 by omega)]
   simp
  ·have : ¬ ((i : Int) ≤ s.size) := by omega
   simp only [this, decide_false, cond_false]
   rfl
 ·have h2 : (i : Int) ≤ s.size := by omega
  have h3 : ((i + 1 : Nat) : Int) ≤ s.size := by omega
  have h4 : (i : Int) < s.size := by omega
  have h5 : i < (bs s).length := by rw [iD]; omega
  simp only [h2, h3, h4, decide_true, cond_true, scarfjointref01_quoted.l0, hw i (by omega), lv, List.getElem?_eq_getElem h5, Option.bind_some, zW, wS (show i < 4611686018427387904 by omega)]
  cases ((bs s)[i] == 34) <;> cases (decide ((bs s)[i] < 32) || decide ((bs s)[i] > 126)) <;> rfl
theorem wV {k : Nat} (s : ByteArray) (t : et) (hk : 26 < k) : ∃ l, cM = some (l, ()) ∧ ∃ o, scarfjointref01_one.l0 s 0 t l k 0 = some o ∧ ∀ z, o = .inr z → z.1.kind = 4 := by
 refine ⟨_, rfl, ?_⟩
 generalize hl : ([(⟨#[45, 62]⟩ : ByteArray), (⟨#[60, 61]⟩ : ByteArray), (⟨#[62, 61]⟩ : ByteArray), (⟨#[61, 61]⟩ : ByteArray), (⟨#[33, 61]⟩ : ByteArray), (⟨#[123]⟩ : ByteArray), (⟨#[125]⟩ : ByteArray), (⟨#[40]⟩ : ByteArray), (⟨#[41]⟩ : ByteArray), (⟨#[91]⟩ : ByteArray), (⟨#[93]⟩ : ByteArray), (⟨#[44]⟩ : ByteArray), (⟨#[59]⟩ : ByteArray), (⟨#[58]⟩ : ByteArray), (⟨#[61]⟩ : ByteArray), (⟨#[43]⟩ : ByteArray), (⟨#[45]⟩ : ByteArray), (⟨#[42]⟩ : ByteArray), (⟨#[60]⟩ : ByteArray), (⟨#[62]⟩ : ByteArray), (⟨#[33]⟩ : ByteArray), (⟨#[38]⟩ : ByteArray), (⟨#[124]⟩ : ByteArray), (⟨#[46]⟩ : ByteArray), (⟨#[63]⟩ : ByteArray)]) = l
 have h1 : l.length = 25 := by subst hl; rfl
 have h2 : ∀ x ∈ l, x.size ≤ 2 := by subst hl; decide
 clear hl
 have hw : ∀ i : Nat, i < 4611686018427387904 → IntKind.i64.wrap (0 + (i : Int)) = (i : Int) := fun i h => by rw [jE (by omega) (by omega)]; omega
 have := li (F := scarfjointref01_one.l0 s 0 t l) l.length (t, ()) (fun i => l[i]?.bind fun x => cond (decide ((x.size : Int) ≤ s.size) && di (s.extract 0 x.size) x) (some ((⟨4, x, 0⟩ : et), ((x.size : Int), ((0 : Int), ())))) none) 0 (fun n i h => ?_) (fun n i _ h _ => ?_) k (by omega)
 ·refine ⟨_, this, fun z hz => ?_⟩
  cases hf : ce (fun i => l[i]?.bind fun x => cond (decide ((x.size : Int) ≤ s.size) && di (s.extract 0 x.size) x) (some ((⟨4, x, 0⟩ : et), ((x.size : Int), ((0 : Int), ())))) none) 0 (l.length - 0) with
  | none => rw [hf] at hz; cases hz
  | some b =>
   rw [hf] at hz
   cases hz
   obtain ⟨j, _, _, j3, _⟩ := cO hf
   obtain ⟨c, _, j5⟩ := Option.bind_eq_some_iff.1 j3
   cases hd : (decide ((c.size : Int) ≤ s.size) && di (s.extract 0 c.size) c) with
   | true => rw [hd, cond_true] at j5; cases j5; rfl
   | false => rw [hd, cond_false] at j5; cases j5
 ·have : ¬ ((i : Int) < l.length) := by omega
  simp [scarfjointref01_one.l0, this]
 ·have h3 : (i : Int) < l.length := by omega
  have h4 : (decide (0 ≤ (i : Int)) && decide ((i : Int) < (l.length : Int))) = true := by simp [h3]
  have h5 := h2 _ (List.getElem_mem h)
  simp only [scarfjointref01_one.l0, h3, h4, decide_true, cond_true, nth, Int.toNat_natCast, List.getElem?_eq_getElem h, Option.bind_some, hw _ (show l[i].size < 4611686018427387904 by omega), wS (show i < 4611686018427387904 by omega)]
  by_cases h6 : (l[i].size : Int) ≤ s.size
  ·have h7 : (decide (0 ≤ (0 : Int)) && decide (0 ≤ (l[i].size : Int)) && decide ((l[i].size : Int) ≤ (s.size : Int))) = true := by simp [h6]
   simp only [h6, h7, decide_true, cond_true, Option.bind_some, Bool.true_and, show Int.toNat 0 = 0 from rfl]
   cases di (s.extract 0 l[i].size) l[i] <;> rfl
  ·simp [h6]
theorem zJ {k : Nat} {s : ByteArray} {c : Int} (h0 : kv s 0 = some c) (hc : qQ c = false) (h : 0 < s.size) (hl : Sm s.size) (hk : s.size < k) (hk' : 26 < k) : ∃ t m e, scarfjointref01_one k s 0 = some (t, m, e, ()) ∧ ((e == 0) = false ∨ (t.kind == 1) = false) := by
 unfold Sm at hl
 have hw : ∀ i : Nat, i < 4611686018427387904 → IntKind.i64.wrap (0 + (i : Int)) = (i : Int) := fun i h => by rw [jE (by omega) (by omega)]; omega
 simp only [scarfjointref01_one, h0, Option.bind_some, kZ, m6, hc, cond_false]
 cases s8 c with
 | true =>
  rw [cond_true, uO true hl hk]
  have hr := pF (fun c => s8 c || !true && (qQ c || c == 95)) s
  generalize iQ (fun c => s8 c || !true && (qQ c || c == 95)) s = r at *
  simp only [Option.bind_some, cond_true, hw r (by omega)]
  cases decide ((r : Int) > 9) with
  | true => exact ⟨_, _, _, rfl, .inl rfl⟩
  | false =>
   have : (decide (0 ≤ (0 : Int)) && decide (0 ≤ (r : Int)) && decide ((r : Int) ≤ (s.size : Int))) = true := by simp; omega
   rw [cond_false, this]
   exact ⟨_, _, _, rfl, .inr rfl⟩
 | false =>
  rw [cond_false]
  cases (c == 34) with
  | true =>
   obtain ⟨n, h1, h2⟩ := sj h hl hk
   rw [cond_true, h1]
   simp only [Option.bind_some]
   rcases h2 with rfl | ⟨h2, h3⟩
   ·exact ⟨_, _, _, rfl, .inl rfl⟩
   ·have e1 : ((n : Int) == 0) = false := by simp; omega
    have e2 : IntKind.i64.wrap ((n : Int) - 1) = ((n - 1 : Nat) : Int) := by rw [jE (by omega) (by omega)]; omega
    have e3 : IntKind.i64.wrap (0 + (1 : Int)) = 1 := hw 1 (by omega)
    rw [e1, cond_false, hw n (by omega), e2, e3]
    cases decide (IntKind.i64.wrap ((n : Int) - 2) > 60) with
    | true => exact ⟨_, _, _, rfl, .inl rfl⟩
    | false =>
     have : (decide (0 ≤ (1 : Int)) && decide ((1 : Int) ≤ ((n - 1 : Nat) : Int)) && decide (((n - 1 : Nat) : Int) ≤ (s.size : Int))) = true := by simp; omega
     rw [cond_false, this]
     exact ⟨_, _, _, rfl, .inr rfl⟩
  | false =>
   obtain ⟨l, h1, o, h2, h3⟩ := wV s ⟨0, ⟨#[]⟩, 0⟩ hk'
   rw [cond_false, h1]
   simp only [Option.bind_some, h2]
   cases o with
   | inl y => exact ⟨_, _, _, rfl, .inl rfl⟩
   | inr z => exact ⟨_, _, _, rfl, .inr (by rw [h3 z rfl]; rfl)⟩
theorem Ao {k : Nat} {s : ByteArray} (hl : Sm s.size) (hk : s.size < k) (hk' : 26 < k) : ay k s = some (jd s, ()) := by
 simp only [ay, cL, cT]
 rw [show ((1 : Int) == 3) = false from rfl, cond_false]
 simp only [Option.bind_some, rj]
 cases h0 : s.size == 0 with
 | true =>
  have : (bs s)[0]? = none := List.getElem?_eq_none (by rw [iD]; have := beq_iff_eq.1 h0; omega)
  simp [jd, this]
 | false =>
  have hpos : 0 < s.size := by have := beq_eq_false_iff_ne.1 h0; omega
  obtain ⟨c, h1, h2⟩ := zf hpos
  rw [cond_false]
  simp only [jd, h2]
  cases hL : qQ c with
  | true =>
   have hD := Bl hL
   have hp : (fun c => s8 c || !false && (qQ c || c == 95)) = rN := by
    funext c; simp only [rN, Bool.not_false, Bool.true_and]; cases qQ c <;> cases s8 c <;> rfl
   have hr := pF rN s
   have hl' := hl
   unfold Sm at hl'
   have hw : ∀ i : Nat, i < 4611686018427387904 → IntKind.i64.wrap (0 + (i : Int)) = (i : Int) := fun i h => by rw [jE (by omega) (by omega)]; omega
   simp only [scarfjointref01_one, h1, Option.bind_some, kZ, m6, hL, hD, cond_false, cond_true, uO false hl hk, hp, Bool.true_and, hw (iQ rN s) (by omega)]
   by_cases h3 : iQ rN s ≤ 20
   ·have h4 : ¬ ((iQ rN s : Int) > 20) := by omega
    have h5 : (decide (0 ≤ (0 : Int)) && decide (0 ≤ (iQ rN s : Int)) && decide ((iQ rN s : Int) ≤ (s.size : Int))) = true := by simp; omega
    simp only [h4, h3, h5, decide_true, decide_false, cond_false, cond_true, Option.bind_some, Bool.true_and, beq_self_eq_true, qV, Bool.and_true]
    congr 2
    rw [Bool.eq_iff_iff]; simp; omega
   ·have : ((iQ rN s : Int) > 20) := by omega
    simp [this, h3]
  | false =>
   obtain ⟨t, m, e, g1, g2⟩ := zJ h1 hL hpos hl hk hk'
   rw [g1]
   simp only [Option.bind_some, qV, Bool.false_and]
   rcases g2 with g2 | g2
   ·rw [g2]; rfl
   ·rw [g2]; cases (e == 0) <;> cases (m == (s.size : Int)) <;> rfl
end Go.Ev.Pl
end
section
set_option linter.unusedVariables false
namespace Go.Ev.Pl
def bO {α B : Type} (g : Nat → α → Option B) (l : List α) : Option B := ce (fun i => (l[i]?).bind (g i)) 0 l.length
theorem ib {B R : Type} (c : Bool) (b : B) (r : Option B) (x : R) (f : B → R) : (cond c (some b) r).elim x f = cond c (f b) (r.elim x f) := by cases c <;> rfl
theorem jG {B R : Type} (x : R) (f : B → R) : (none : Option B).elim x f = x := rfl
theorem aL {i n : Nat} (h : i < n) : decide ((i : Int) < (n : Int)) = true := decide_eq_true (by omega)
theorem ar (n : Nat) : decide ((n : Int) < (n : Int)) = false := decide_eq_false (by omega)
theorem aM {α : Type} {l : List α} {i : Nat} {x : α} (h : l[i]? = some x) : i < l.length := (List.getElem?_eq_some_iff.1 h).1
theorem cm {α : Type} {l : List α} {i : Nat} {x : α} (h : l[i]? = some x) : x ∈ l := List.mem_of_getElem? h
theorem fg {α : Type} {l : List α} {i : Nat} {x : α} (h : l[i]? = some x) : nth l i = some x := h
theorem ig (i : Nat) : decide (0 ≤ (i : Int)) = true := decide_eq_true (by omega)
theorem lI {i n : Nat} (h : i ≤ n) : decide ((i : Int) ≤ (n : Int)) = true := decide_eq_true (by omega)
theorem sN {i n : Nat} (h : i ≤ n) : decide (i ≤ n) = true := decide_eq_true h
theorem zZ : decide ((0 : Int) ≤ 0) = true := rfl
theorem AU (n : Nat) : decide (0 ≤ n) = true := decide_eq_true (by omega)
theorem bP {α A B : Type} {F : Nat → Int → Option (Sum A B)} (l : List α) (a : A) (g : Nat → α → Option B) (fuel : Nat)
  (h0 : ∀ n, F (n + 1) (l.length : Int) = some (.inl a))
  (h1 : ∀ n (i : Nat) x, l[i]? = some x → (∀ j y, j < i → l[j]? = some y → g j y = none) → F (n + 1) (i : Int) = (g i x).elim (F n ((i + 1 : Nat) : Int)) (fun b => some (.inr b)))
  (hf : l.length < fuel) : F fuel 0 = some ((bO g l).elim (.inl a) .inr) := by
 suffices H : ∀ c i fuel, l.length - i = c → i ≤ l.length → l.length - i < fuel → (∀ j y, j < i → l[j]? = some y → g j y = none) → F fuel (i : Int) = some ((ce (fun i => (l[i]?).bind (g i)) i c).elim (.inl a) .inr) from
  H _ 0 fuel rfl (by omega) (by omega) (fun j y h => by omega)
 intro c
 induction c with
 | zero =>
  intro i fuel hc hi hf hp
  obtain rfl : i = l.length := by omega
  cases fuel with
  | zero => omega
  | succ n => rw [h0]; rfl
 | succ c ih =>
  intro i fuel hc hi hf hp
  cases fuel with
  | zero => omega
  | succ n =>
   have hlt : i < l.length := by omega
   have hx : l[i]? = some l[i] := List.getElem?_eq_getElem hlt
   rw [h1 n i _ hx hp, ce]
   simp only [hx, Option.bind_some]
   cases hg : g i l[i] with
   | some b => rfl
   | none =>
    exact ih (i + 1) n (by omega) (by omega) (by omega) fun j y h1 h2 => by
     by_cases e : j = i
     ·subst e; rw [hx] at h2; cases h2; exact hg
     ·exact hp j y (by omega) h2
theorem dU {α B : Type} {g : Nat → α → Option B} {l : List α} : bO g l = none ↔ ∀ j y, l[j]? = some y → g j y = none := by
 rw [bO, kX]
 constructor
 ·intro h j y hy
  have := h j (by omega) (by have := aM hy; omega)
  rw [hy] at this; exact this
 ·intro h j _ h2
  cases hy : l[j]? with
  | none => rfl
  | some y => exact h j y hy
theorem bS {α B : Type} (p : α → Bool) (b : B) (l : List α) : bO (fun _ x => cond (p x) (some b) none) l = cond (l.any p) (some b) none :=
 vd p b l _ fun j x hx => by simp [hx]
theorem oy {α A B : Type} {F : Nat → Int → Option (Sum A B)} (l : List α) (N : Nat) (a : A) (b : B) (p : α → Bool) (fuel : Nat) (hN : N ≤ l.length)
  (h0 : ∀ n, F (n + 1) (N : Int) = some (.inl a))
  (h1 : ∀ n (i : Nat) x, i < N → l[i]? = some x → F (n + 1) (i : Int) = cond (p x) (some (.inr b)) (F n ((i + 1 : Nat) : Int)))
  (hf : N < fuel) : F fuel 0 = some (cond ((l.take N).any p) (.inr b) (.inl a)) := by
 have hl : (l.take N).length = N := by simp; omega
 have := bP (F := F) (l.take N) a (fun _ x => cond (p x) (some b) none) fuel (fun n => by rw [hl]; exact h0 n) (fun n i x hx _ => by
  have h2 := aM hx
  rw [h1 n i x (by omega) (by rw [List.getElem?_take_of_lt (by omega)] at hx; exact hx)]
  cases p x <;> rfl) (by omega)
 rw [this, bS]
 cases (l.take N).any p <;> rfl
def BA (a : bQ) : Prop := a.name.size ≤ 40 ∧ a.names.length ≤ 25 ∧ ∀ s ∈ a.names, s.size ≤ 40
structure BT (t : ad) : Prop where
 n : t.nodes.length ≤ 20
 e : t.edges.length ≤ 30
 nn : ∀ x ∈ t.nodes, x.name.size ≤ 40
 na : ∀ x ∈ t.nodes, x.attrs.length ≤ 30
 aa : ∀ x ∈ t.nodes, ∀ a ∈ x.attrs, BA a
 en : ∀ x ∈ t.edges, x.name.size ≤ 40
def jv (o : Option (Int × Unit)) : Int := match o with | some z => z.1 | none => 0
theorem qS {α : Type} (l : List α) (n : Nat) : slc l 0 n = l.take n := by simp [slc]
theorem cP {n m : Nat} (h : n ≤ m) (hm : m ≤ 4611686018427387903) : Sm n := by unfold Sm; omega
theorem wd {i n : Nat} (h : i ≤ n) : (decide (0 ≤ (0 : Int)) && decide ((0 : Int) ≤ (i : Int)) && decide ((i : Int) ≤ (n : Int))) = true := by simp; omega
theorem kR (o : Option (Int × Unit)) : ((some (o.elim (Sum.inl ()) Sum.inr)).bind fun o => aJ o (fun _ => some ((0 : Int), ())) (fun z => some (z.1, ()))) = some (jv o, ()) := by cases o <;> rfl
theorem vn (x y : ByteArray) : di x y = di y x := by simp only [di]; exact decide_eq_decide.2 eq_comm
def gR (l : List ByteArray) : Int := cond (decide ((l.length : Int) > 20)) 3 (jv (bO (fun i x => cond (!jd x) (some (2, ())) (cond ((l.take i).any (di x)) (some (5, ())) none)) l))
theorem xv {k : Nat} {l : List ByteArray} (hl : l.length ≤ 25) (hs : ∀ s ∈ l, s.size ≤ 40) (hk : 100 < k) : types_names k l = some (gR l, ()) := by
 rw [types_names, gR]
 cases decide ((l.length : Int) > 20) with
 | true => rfl
 | false =>
  rw [cond_false, cond_false, bP (F := types_names.l0 k l l (l.length : Int)) l () (fun i x => cond (!jd x) (some (2, ())) (cond ((l.take i).any (di x)) (some (5, ())) none)) _ (fun n => ?_) (fun n i x hx _ => ?_) (by omega)]
  ·exact kR _
  ·simp only [types_names.l0, ar, cond_false]
  ·have h := aM hx
   have h3 := hs x (cm hx)
   simp only [types_names.l0, aL h, cond_true, idx_some hx, Option.bind_some, Af (s := x) (cP h3 (by omega)) (show x.size < k by omega), wd (Nat.le_of_lt h), Int.toNat_natCast, qS,
    oP _ (show Sm (l.take i).length from cP (m := 25) (by simp; omega) (by omega)), ib, jG, wS (show i < 4611686018427387904 by omega)]
theorem vE {k : Nat} {l : List ByteArray} (hl : l.length ≤ 25) (hs : ∀ s ∈ l, s.size ≤ 40) (hk : 100 < k) : scarfjointref04_names k l = some (gR l, ()) := by
 rw [scarfjointref04_names, gR]
 cases decide ((l.length : Int) > 20) with
 | true => rfl
 | false =>
  rw [cond_false, cond_false, bP (F := fun n i => scarfjointref04_names.l0 k n l i) l () (fun i x => cond (!jd x) (some (2, ())) (cond ((l.take i).any (di x)) (some (5, ())) none)) _ (fun n => ?_) (fun n i x hx _ => ?_) (by omega)]
  ·exact kR _
  ·simp only [scarfjointref04_names.l0, ar, cond_false]
  ·have h := aM hx
   have h3 := hs x (cm hx)
   simp only [scarfjointref04_names.l0, aL h, cond_true, idx_some hx, Option.bind_some, Ao (s := x) (cP h3 (by omega)) (show x.size < k by omega) (by omega)]
   rw [oy (F := scarfjointref04_names.l2 l i) l i (l, (i : Int), ()) (5, ()) (di x) k (by omega) (fun n => by simp only [scarfjointref04_names.l2, ar, cond_false]) (fun n j y hj hy => by
    simp only [scarfjointref04_names.l2, aL hj, cond_true, idx_some hy, idx_some hx, Option.bind_some, vn y x, wS (show j < 4611686018427387904 by omega)]) (by omega)]
   simp only [Option.bind_some]
   cases jd x <;> cases (l.take i).any (di x) <;> simp only [Bool.not_true, Bool.not_false, cond_true, cond_false, aJ, Option.elim, wS (show i < 4611686018427387904 by omega)]
def km (a : bQ) : Int :=
 cond (gR a.names != 0) (gR a.names)
  (cond (decide ((a.names.length : Int) > 0)) (cond (!(a.low == 0 && a.high == IntKind.i64.wrap ((a.names.length : Int) - 1))) 6 0)
   (cond (!(decide (-1000000 ≤ a.low) && (decide (a.low ≤ a.high) && decide (a.high ≤ 1000000)))) 6 0))
def gm (prev : List bQ) (a : bQ) : Int :=
 cond (!jd a.name) 2 (cond (prev.any fun y => di y.name a.name) 5 (km a))
theorem pY {k : Nat} {a : bQ} {l : List bQ} (ha : BA a) (hl : Sm l.length) (hk : 100 < k) : dI k a l = some (gm l a, ()) := by
 obtain ⟨h1, h2, h3⟩ := ha
 simp only [dI, gm, km, Af (s := a.name) (cP h1 (by omega)) (show a.name.size < k by omega), Option.bind_some, yy, dN, bF (l := l) (q := fun z2 => some (di z2.1.name a.name)) (p := fun y => di y.name a.name) (fun _ _ => rfl) hl,
  xv h2 h3 hk, eY, jO, iM]
theorem oi {k : Nat} {a : bQ} (ha : BA a) (hk : 100 < k) : bC k a = some (km a, ()) := by
 obtain ⟨h1, h2, h3⟩ := ha
 simp only [bC, ah, km, vE h2 h3 hk, Option.bind_some, eY, jO, iM]
 by_cases h : a.names = []
 ·have e1 : gR a.names = 0 := by rw [h]; rfl
  rw [e1]
  have e2 : (!(decide (a.low ≥ -1000000) && decide (a.low ≤ 1000000)) || !(decide (a.high ≥ a.low) && decide (a.high ≤ 1000000))) = !(decide (-1000000 ≤ a.low) && (decide (a.low ≤ a.high) && decide (a.high ≤ 1000000))) := by
   rw [Bool.eq_iff_iff]; simp; omega
  rw [h, e2]
  rfl
 ·have h4 : a.names.length ≠ 0 := by simpa using h
  have e1 : ((a.names.length : Int) == 0) = false := by simp; omega
  have e2 : decide ((a.names.length : Int) > 0) = true := decide_eq_true (by omega)
  rw [e1, e2]
  simp only [cond_false, cond_true, bne, Bool.not_and]
def fe : Nat → ad → Int → List bQ
 | 0, _, _ => []
 | n + 1, t, a => cond (decide (a < 0)) [] (match aB t.nodes a with | some x => fe n t x.parent ++ x.attrs | none => [])
theorem sC {α : Type} {l : List α} {a : Int} {x : α} (h : aB l a = some x) : x ∈ l := by
 simp only [aB] at h
 cases hd : decide (0 ≤ a) with
 | false => rw [hd] at h; cases h
 | true => rw [hd, cond_true, nth] at h; exact List.mem_of_getElem? h
theorem jt {t : ad} (ht : BT t) : ∀ n a, (fe n t a).length ≤ 30 * n
 | 0, a => by simp [fe]
 | n + 1, a => by
  rw [fe]
  cases decide (a < 0) with
  | true => simp
  | false =>
   rw [cond_false]
   cases h : aB t.nodes a with
   | none => simp
   | some x =>
    have := jt ht n x.parent
    have := ht.na x (sC h)
    simp; omega
theorem kU {t : ad} (ht : BT t) : ∀ n a, ∀ y ∈ fe n t a, BA y
 | 0, a => by simp [fe]
 | n + 1, a => by
  rw [fe]
  cases decide (a < 0) with
  | true => simp
  | false =>
   rw [cond_false]
   cases h : aB t.nodes a with
   | none => simp
   | some x =>
    intro y hy
    rcases List.mem_append.1 hy with h1 | h1
    ·exact kU ht n _ y h1
    ·exact ht.aa x (sC h) y h1
theorem aR {n : Nat} (h : n ≤ 1000000) : bX n = true := by simp only [bX, zC]; exact Nat.ble_eq_true_of_le (by omega)
theorem mW {t : ad} (ht : BT t) : ∀ (m k n i : Nat), i < m → m < k → m < n → n ≤ 32 → i < t.nodes.length → (∀ j x, j ≤ i → t.nodes[j]? = some x → x.parent < j) →
  cS k t i = some (fe n t i, ()) ∧ aD k t i = some (fe n t i, ())
 | 0, k, n, i, h, _, _, _, _, _ => by omega
 | m + 1, k + 1, n + 1, i, h, hk, hn, hn2, hi, hp => by
  obtain ⟨x, hx⟩ : ∃ x, t.nodes[i]? = some x := ⟨_, List.getElem?_eq_getElem hi⟩
  have hpx := hp i x (Nat.le_refl _) hx
  have h0 : ¬ ((i : Int) < 0) := by omega
  have ha := ht.na x (cm hx)
  rw [cS, aD, fe]
  simp only [idx_some hx, Option.bind_some, h0, decide_false, cond_false]
  by_cases hn0 : x.parent ≥ 0
  ·obtain ⟨p, hp1⟩ : ∃ p : Nat, x.parent = p := ⟨x.parent.toNat, by omega⟩
   rw [hp1] at hpx ⊢
   obtain ⟨r1, r2⟩ := mW ht m k n p (by omega) (by omega) (by omega) (by omega) (by omega) (fun j y hj hy => hp j y (by omega) hy)
   have hl := jt ht n (p : Int)
   have hge : ((p : Nat) : Int) ≥ 0 := by omega
   rw [r1, r2]
   simp only [hge, decide_true, cond_true, Option.bind_some, List.nil_append, List.length_nil, Nat.zero_add, aR (show (fe n t (p : Int)).length ≤ 1000000 by omega), aR (show (fe n t (p : Int)).length + x.attrs.length ≤ 1000000 by omega), and_self]
  ·obtain ⟨n, rfl⟩ : ∃ n', n = n' + 1 := ⟨n - 1, by omega⟩
   obtain ⟨k, rfl⟩ : ∃ k', k = k' + 1 := ⟨k - 1, by omega⟩
   have hlt : x.parent < 0 := by omega
   simp only [hn0, decide_false, cond_false, fe, aD, hlt, decide_true, cond_true, Option.bind_some, List.nil_append, List.length_nil, Nat.zero_add, aR (show 0 ≤ 1000000 by omega), aR (show x.attrs.length ≤ 1000000 by omega), and_self]
 | m + 1, 0, n, i, h, hk, _, _, _, _ => by omega
 | m + 1, k + 1, 0, i, h, hk, hn, _, _, _ => by omega
end Go.Ev.Pl
end
section
set_option linter.unusedVariables false
namespace Go.Ev.Pl
def bj (t : ad) (i : Int) : List bQ := fe 32 t i
def cW (t : ad) (i : Nat) (x : aZ) : Int :=
 cond (!jd x.name) 2 (cond ((t.nodes.take i).any fun y => di y.name x.name) 5 (cond (decide (x.parent < -1) || decide (x.parent ≥ (i : Int))) 6
  (cond (decide ((x.attrs.length : Int) > 4)) 3 (cond (decide (((bj t i).length : Int) > 8)) 3
   (jv (ce (fun j => ((bj t i)[j]?).bind fun a => cond (gm ((bj t i).take j) a != 0) (some (gm ((bj t i).take j) a, ())) none) ((bj t i).length - x.attrs.length) ((bj t i).length - ((bj t i).length - x.attrs.length))))))))
theorem qD {t : ad} {i : Nat} {x : aZ} (h : t.nodes[i]? = some x) : bj t i = fe 31 t x.parent ++ x.attrs := by
 have h0 : ¬ ((i : Int) < 0) := by omega
 simp only [bj, fe, h0, decide_false, cond_false, idx_some h]
theorem B4 {a b : Nat} (h : b ≤ a) (ha : a ≤ 1000000) : IntKind.i64.wrap ((a : Int) - (b : Int)) = ((a - b : Nat) : Int) := by
 rw [jE (by omega) (by omega)]; omega
def Bk (t : ad) (i : Nat) : Prop := ∀ j x, j ≤ i → t.nodes[j]? = some x → x.parent < j
theorem uo {k : Nat} {t : ad} (ht : BT t) (hk : 2000 < k) {i : Nat} {x : aZ} (hx : t.nodes[i]? = some x) (hp : ∀ j y, j < i → t.nodes[j]? = some y → y.parent < j) :
    types_node k t i = some (cW t i x, ()) ∧ scarfjointref04_node k t i = some (cW t i x, ()) := by
  have hi := aM hx
  have hn := ht.n
  have hsz := ht.nn x (cm hx)
  have hal := ht.na x (cm hx)
  have e5 := (bF (l := t.nodes.take i) (q := fun z3 => g9 z3.1 x) (p := fun y => di y.name x.name) (fun _ _ => rfl) (cP (m := 20) (by simp; omega) (by omega)))
  have e6 := oy (F := scarfjointref04_node.l0 i t x) t.nodes i ((i : Int), t, x, ()) (5, ()) (fun y => di y.name x.name) k (by omega) (fun n => by simp only [scarfjointref04_node.l0, ar, cond_false]) (fun n j y hj hy => by
        simp only [scarfjointref04_node.l0, aL hj, cond_true, idx_some hy, Option.bind_some, wS (show j < 4611686018427387904 by omega)]) (by omega)
  have e7 : IntKind.i64.wrap ((i : Int) - 1) = (i : Int) - 1 := jE (by omega) (by omega)
  have e8 : (!(decide (x.parent ≥ -1) && decide (x.parent ≤ (i : Int) - 1))) = (decide (x.parent < -1) || decide (x.parent ≥ (i : Int))) := by
    rw [Bool.eq_iff_iff]; simp; omega
  simp only [types_node, scarfjointref04_node, cW, ah, idx_some hx, Option.bind_some, Af (s := x.name) (cP hsz (by omega)) (show x.name.size < k by omega), Ao (s := x.name) (cP hsz (by omega)) (show x.name.size < k by omega) (by omega),
    wd (Nat.le_of_lt hi), Int.toNat_natCast, qS, yY, e5, e6, cond_true, eY, jO, iM]
  cases jd x.name with
  | false => exact ⟨rfl, rfl⟩
  | true =>
    simp only [Bool.not_true, cond_false]
    cases ((t.nodes.take i).any fun y => di y.name x.name) with
    | true => exact ⟨rfl, rfl⟩
    | false =>
      simp only [cond_false, aJ, e7, e8]
      cases hq : (decide (x.parent < -1) || decide (x.parent ≥ (i : Int))) with
      | true => exact ⟨rfl, rfl⟩
      | false =>
        have hq' : x.parent < i := by simp at hq; omega
        have hpar : Bk t i := fun j y hj hy => by
          by_cases e : j = i
          · subst e; rw [hx] at hy; cases hy; exact hq'
          · exact hp j y (by omega) hy
        obtain ⟨a1, a2⟩ := mW ht 31 k 32 i (by omega) (by omega) (by omega) (by omega) hi hpar
        have hall := jt ht 32 i
        have hmem := kU ht 32 i
        have hown := qD hx
        rw [show fe 32 t i = bj t i from rfl] at a1 a2 hall hmem
        have hge : x.attrs.length ≤ (bj t i).length := by rw [hown]; simp
        generalize bj t i = all at *
        simp only [cond_false, a1, a2, Option.bind_some]
        cases decide ((x.attrs.length : Int) > 4) with
        | true => exact ⟨rfl, rfl⟩
        | false =>
          simp only [cond_false, Bool.false_or]
          cases decide ((all.length : Int) > 8) with
          | true => exact ⟨rfl, rfl⟩
          | false =>
            simp only [cond_false, B4 hge (by omega)]
            constructor
            · rw [li (F := types_node.l1 k all) all.length () (fun j => (all[j]?).bind fun a => cond (gm (all.take j) a != 0) (some (gm (all.take j) a, ())) none) (all.length - x.attrs.length) (fun n j hj => ?_) (fun n j h1 h2 _ => ?_) k (by omega)]
              · exact kR _
              · have : ¬ ((j : Int) < all.length) := by omega
                simp [types_node.l1, this]
              · have hy := List.getElem?_eq_getElem h2
                simp only [types_node.l1, aL h2, ig, lI (Nat.le_of_lt h2), sN (Nat.le_of_lt h2), zZ, AU, Bool.and_true, cond_true, fg hy, hy, Option.bind_some, Int.toNat_natCast, qS,
                  pY (k := k) (a := all[j]) (l := all.take j) (hmem _ (List.getElem_mem h2)) (cP (m := 1000) (by simp; omega) (by omega)) (by omega), wS (show j < 4611686018427387904 by omega)]
                cases (gm (all.take j) all[j] != 0) <;> rfl
            · rw [li (F := fun n j => scarfjointref04_node.l2 k n all j) all.length () (fun j => (all[j]?).bind fun a => cond (gm (all.take j) a != 0) (some (gm (all.take j) a, ())) none) (all.length - x.attrs.length) (fun n j hj => ?_) (fun n j h1 h2 _ => ?_) k (by omega)]
              · exact kR _
              · have : ¬ ((j : Int) < all.length) := by omega
                simp [scarfjointref04_node.l2, this]
              · have hy := List.getElem?_eq_getElem h2
                have hb := hmem _ (List.getElem_mem h2)
                simp only [scarfjointref04_node.l2, aL h2, ig, Bool.and_true, cond_true, Int.toNat_natCast, fg hy, hy, Option.bind_some, Ao (s := all[j].name) (cP hb.1 (by omega)) (show all[j].name.size < k by have := hb.1; omega) (by omega)]
                rw [oy (F := scarfjointref04_node.l4 all j) all j (all, (j : Int), ()) (5, ()) (fun y => di y.name all[j].name) k (by omega) (fun n => by simp only [scarfjointref04_node.l4, ar, cond_false]) (fun n j' y hj hy' => by
                  simp only [scarfjointref04_node.l4, aL hj, cond_true, Int.toNat_natCast, fg hy', fg hy, aL h2, aL (aM hy'), ig, Bool.and_true, Option.bind_some, wS (show j' < 4611686018427387904 by omega)]) (by omega)]
                simp only [Option.bind_some, gm]
                cases jd all[j].name with
                | false => rfl
                | true =>
                  cases (all.take j).any (fun y => di y.name all[j].name) with
                  | true => rfl
                  | false =>
                    simp only [Bool.not_true, cond_false, aJ, aL h2, ig, Bool.and_true, Int.toNat_natCast, fg hy, Option.bind_some, cond_true, oi hb (show 100 < k by omega), wS (show j < 4611686018427387904 by omega)]
                    cases (km all[j] != 0) <;> rfl
def mm (a b : Int) : Bool := decide (a ≥ 0) && (decide (a ≤ 40) && (b == -1 || (decide (b ≥ a) && decide (b ≤ 40))))
theorem sx (a b : Int) : dV a b = some (mm a b, ()) := by
 simp only [dV, mm, eY, jO, iM, Option.bind_some]
theorem rL (a b : Int) : bG a b = some (mm a b, ()) := by
 simp only [bG, ah, mm, eY, jO, iM, Option.bind_some, Bool.and_assoc]
def dk (t : ad) (i : Nat) (x : bk) : Int :=
 cond (!jd x.name) 2 (cond ((t.edges.take i).any fun y => di y.name x.name) 5
  (cond (!(decide (x.frm ≥ 0) && decide (x.frm < (t.nodes.length : Int))) || !(decide (x.to ≥ 0) && decide (x.to < (t.nodes.length : Int)))) 6
   (cond (!mm x.outLow x.outHigh || !mm x.inLow x.inHigh) 6 0)))
theorem u0 {k : Nat} {t : ad} (ht : BT t) (hk : 2000 < k) {i : Nat} {x : bk} (hx : t.edges[i]? = some x) :
    gK k t i = some (dk t i x, ()) ∧ scarfjointref04_edge k t i = some (dk t i x, ()) := by
  have hi := aM hx
  have hn := ht.e
  have hn' := ht.n
  have hsz := ht.en x (cm hx)
  have e5 := (bF (l := t.edges.take i) (q := fun z3 => gk z3.1 x) (p := fun y => di y.name x.name) (fun _ _ => rfl) (cP (m := 30) (by simp; omega) (by omega)))
  have e6 := oy (F := scarfjointref04_edge.l0 i t x) t.edges i (t, x, ()) (5, ()) (fun y => di y.name x.name) k (by omega) (fun n => by simp only [scarfjointref04_edge.l0, ar, cond_false]) (fun n j y hj hy => by
        simp only [scarfjointref04_edge.l0, aL hj, cond_true, idx_some hy, Option.bind_some, wS (show j < 4611686018427387904 by omega)]) (by omega)
  have e7 : IntKind.i64.wrap ((t.nodes.length : Int) - 1) = (t.nodes.length : Int) - 1 := jE (by omega) (by omega)
  have e8 : ∀ z : Int, decide (z ≤ (t.nodes.length : Int) - 1) = decide (z < (t.nodes.length : Int)) := fun z => decide_eq_decide.2 (by omega)
  simp only [gK, ft, scarfjointref04_edge, dk, ah, idx_some hx, Option.bind_some, Af (s := x.name) (cP hsz (by omega)) (show x.name.size < k by omega), Ao (s := x.name) (cP hsz (by omega)) (show x.name.size < k by omega) (by omega),
    wd (Nat.le_of_lt hi), Int.toNat_natCast, qS, AK, e5, e6, cond_true, eY, jO, iM, sx, rL]
  cases jd x.name with
  | false => exact ⟨rfl, rfl⟩
  | true =>
    simp only [Bool.not_true, cond_false]
    cases ((t.edges.take i).any fun y => di y.name x.name) with
    | true => exact ⟨rfl, rfl⟩
    | false =>
      simp only [cond_false, aJ, e7, e8]
      cases (decide (x.frm ≥ 0) && decide (x.frm < (t.nodes.length : Int))) <;> cases (decide (x.to ≥ 0) && decide (x.to < (t.nodes.length : Int))) <;> cases (mm x.outLow x.outHigh) <;> cases (mm x.inLow x.inHigh) <;> exact ⟨rfl, rfl⟩
def zK (o : Option (ByteArray × (Int × Unit))) : ByteArray × Int := match o with | some z => (z.1, z.2.1) | none => (⟨#[]⟩, 0)
def Aa (t : ad) : ByteArray × Int :=
  cond ((t.nodes.length : Int) == 0) (⟨#[]⟩, 7) (cond (decide ((t.nodes.length : Int) > 12) || decide ((t.edges.length : Int) > 20)) (⟨#[]⟩, 3)
    (match bO (fun i x => cond (cW t i x != 0) (some (x.name, cW t i x, ())) none) t.nodes with
     | some z => (z.1, z.2.1)
     | none => zK (bO (fun i x => cond (dk t i x != 0) (some (x.name, dk t i x, ())) none) t.edges)))
def jr (t : ad) : Int := (Aa t).2
theorem cY {B R : Type} (c : Bool) (b : B) (x : R) (f : B → R) : (cond c (some b) none).elim x f = cond c (f b) x := by cases c <;> rfl
theorem mo {t : ad} {i : Nat} {x : aZ} (h : cW t i x = 0) : -1 ≤ x.parent ∧ x.parent < i := by
 simp only [cW] at h
 cases hq : (decide (x.parent < -1) || decide (x.parent ≥ (i : Int))) with
 | true => rw [hq] at h; revert h; cases jd x.name <;> cases ((t.nodes.take i).any fun y => di y.name x.name) <;> simp
 | false => simp at hq; omega
theorem AC {c : Int} {B : Type} {b : B} (h : cond (c != 0) (some b) none = none) : c = 0 := by
 cases hc : (c != 0) with
 | true => rw [hc] at h; cases h
 | false => simpa using hc
theorem gT {k : Nat} {t : ad} (ht : BT t) (hk : 2000 < k) : types_Valid k t = some ((Aa t).1, jr t, ()) ∧ scarfjointref04_Valid k t = some ((Aa t).1, jr t, ()) := by
 have hn := ht.n
 have hn' := ht.e
 have p1 : ∀ (i : Nat), (∀ j y, j < i → t.nodes[j]? = some y → (cond (cW t j y != 0) (some (y.name, cW t j y, ())) none : Option (ByteArray × (Int × Unit))) = none) → ∀ j y, j < i → t.nodes[j]? = some y → y.parent < j :=
  fun i h j y hj hy => (mo (AC (h j y hj hy))).2
 have l1 := bP (F := types_Valid.l1 k t t.nodes t.nodes.length) t.nodes (t, ()) (fun i x => cond (cW t i x != 0) (some (x.name, cW t i x, ())) none) (Int.toNat (t.nodes.length : Int) + 1) (fun n => by simp only [types_Valid.l1, ar, cond_false]) (fun n i x hx hp => by
  simp only [types_Valid.l1, aL (aM hx), cond_true, idx_some hx, Option.bind_some, (uo ht hk hx (p1 i hp)).1, cY, wS (show i < 4611686018427387904 by have := aM hx; omega)]) (by omega)
 have l2 := bP (F := types_Valid.l3 k t t.edges t.edges.length) t.edges () (fun i x => cond (dk t i x != 0) (some (x.name, dk t i x, ())) none) (Int.toNat (t.edges.length : Int) + 1) (fun n => by simp only [types_Valid.l3, ar, cond_false]) (fun n i x hx hp => by
  simp only [types_Valid.l3, aL (aM hx), cond_true, idx_some hx, Option.bind_some, (u0 ht hk hx).1, cY, wS (show i < 4611686018427387904 by have := aM hx; omega)]) (by omega)
 have l3 := bP (F := scarfjointref04_Valid.l0 k t) t.nodes (t, ()) (fun i x => cond (cW t i x != 0) (some (x.name, cW t i x, ())) none) k (fun n => by simp only [scarfjointref04_Valid.l0, ar, cond_false]) (fun n i x hx hp => by
  simp only [scarfjointref04_Valid.l0, aL (aM hx), cond_true, idx_some hx, Option.bind_some, (uo ht hk hx (p1 i hp)).2, cY, wS (show i < 4611686018427387904 by have := aM hx; omega)]) (by omega)
 have l4 := bP (F := scarfjointref04_Valid.l2 k t) t.edges () (fun i x => cond (dk t i x != 0) (some (x.name, dk t i x, ())) none) k (fun n => by simp only [scarfjointref04_Valid.l2, ar, cond_false]) (fun n i x hx hp => by
  simp only [scarfjointref04_Valid.l2, aL (aM hx), cond_true, idx_some hx, Option.bind_some, (u0 ht hk hx).2, cY, wS (show i < 4611686018427387904 by have := aM hx; omega)]) (by omega)
 simp only [types_Valid, scarfjointref04_Valid, jr, Aa, l1, l3, eY, iM, Option.bind_some]
 cases ((t.nodes.length : Int) == 0) with
 | true => exact ⟨rfl, rfl⟩
 | false =>
  cases (decide ((t.nodes.length : Int) > 12) || decide ((t.edges.length : Int) > 20)) with
  | true => exact ⟨rfl, rfl⟩
  | false =>
   simp only [cond_false]
   cases bO (fun i x => cond (cW t i x != 0) (some (x.name, cW t i x, ())) none) t.nodes with
   | some z => exact ⟨rfl, rfl⟩
   | none =>
    simp only [Option.elim, aJ, l2, l4, Option.bind_some]
    cases bO (fun i x => cond (dk t i x != 0) (some (x.name, dk t i x, ())) none) t.edges <;> exact ⟨rfl, rfl⟩
structure vF (t : ad) : Prop where
 b : BT t
 pos : 0 < t.nodes.length
 n : t.nodes.length ≤ 12
 e : t.edges.length ≤ 20
 par : ∀ (i : Nat) x, t.nodes[i]? = some x → -1 ≤ x.parent ∧ x.parent < i
 edge : ∀ (i : Nat) x, t.edges[i]? = some x → 0 ≤ x.frm ∧ x.frm < t.nodes.length ∧ 0 ≤ x.to ∧ x.to < t.nodes.length
theorem kG {t : ad} (ht : BT t) (h : jr t = 0) : vF t := by
 simp only [jr, Aa] at h
 cases h1 : ((t.nodes.length : Int) == 0) with
 | true => rw [h1] at h; cases h
 | false =>
  cases h2 : (decide ((t.nodes.length : Int) > 12) || decide ((t.edges.length : Int) > 20)) with
  | true => rw [h1, h2] at h; cases h
  | false =>
   rw [h1, h2] at h
   simp only [cond_false] at h
   cases h3 : bO (fun i x => cond (cW t i x != 0) (some (x.name, cW t i x, ())) none) t.nodes with
   | some z =>
    rw [h3] at h
    obtain ⟨j, _, _, j3, _⟩ := cO h3
    obtain ⟨x, _, j5⟩ := Option.bind_eq_some_iff.1 j3
    dsimp only at j5
    cases hc : (cW t j x != 0) with
    | false => rw [hc] at j5; cases j5
    | true => rw [hc] at j5; cases j5; dsimp only at h; simp only [bne, h] at hc; cases hc
   | none =>
    rw [h3] at h
    cases h4 : bO (fun i x => cond (dk t i x != 0) (some (x.name, dk t i x, ())) none) t.edges with
    | some z =>
     rw [h4] at h
     obtain ⟨j, _, _, j3, _⟩ := cO h4
     obtain ⟨x, _, j5⟩ := Option.bind_eq_some_iff.1 j3
     dsimp only at j5
     cases hc : (dk t j x != 0) with
     | false => rw [hc] at j5; cases j5
     | true => rw [hc] at j5; cases j5; simp only [zK] at h; simp only [bne, h] at hc; cases hc
    | none =>
     simp at h1 h2
     refine ⟨ht, by have := List.length_pos_iff.2 h1; omega, by omega, by omega, fun i x hx => mo (AC (dU.1 h3 i x hx)), fun i x hx => ?_⟩
     have := AC (dU.1 h4 i x hx)
     simp only [dk] at this
     cases h5 : (!(decide (x.frm ≥ 0) && decide (x.frm < (t.nodes.length : Int))) || !(decide (x.to ≥ 0) && decide (x.to < (t.nodes.length : Int)))) with
     | true => rw [h5] at this; revert this; cases jd x.name <;> cases ((t.edges.take i).any fun y => di y.name x.name) <;> simp
     | false => simp at h5; omega
end Go.Ev.Pl
end
section
set_option linter.unusedVariables false
namespace Go.Ev.Pl
theorem cy {β : Type} {f : Nat → List β} {c : Nat} (h : ∀ j, (f j).length ≤ c) : ∀ i, ((List.range i).flatMap f).length ≤ c * i
 | 0 => by simp
 | i + 1 => by
  have := cy h i
  have := h i
  rw [List.range_succ, List.flatMap_append, List.length_append, Nat.mul_succ, show List.flatMap f [i] = f i by simp]
  omega
theorem gY {β R : Type} {F : Nat → List β → Int → Option R} (N : Nat) (f : Nat → List β) (out : List β → Option R) (acc0 : List β) (fuel : Nat)
  (h0 : ∀ n acc, F (n + 1) acc (N : Int) = out acc)
  (h1 : ∀ n acc (i : Nat), i < N → acc = acc0 ++ (List.range i).flatMap f → F (n + 1) acc (i : Int) = F n (acc ++ f i) ((i + 1 : Nat) : Int))
  (hf : N < fuel) : F fuel acc0 0 = out (acc0 ++ (List.range N).flatMap f) := by
 suffices H : ∀ c i fuel, N - i = c → i ≤ N → N - i < fuel → F fuel (acc0 ++ (List.range i).flatMap f) (i : Int) = out (acc0 ++ (List.range N).flatMap f) by
  have := H _ 0 fuel rfl (by omega) (by omega)
  simpa using this
 intro c
 induction c with
 | zero =>
  intro i fuel hc hi hf
  obtain rfl : i = N := by omega
  cases fuel with
  | zero => omega
  | succ n => rw [h0]
 | succ c ih =>
  intro i fuel hc hi hf
  cases fuel with
  | zero => omega
  | succ n =>
   rw [h1 n _ i (by omega) rfl, ← ih (i + 1) n (by omega) (by omega) (by omega), List.range_succ, List.flatMap_append]
   simp
theorem wo {α S A B : Type} {F : Nat → S → Int → Option (Sum A B)} (l : List α) (fin : S → A) (g : α → Option B) (st : α → S → S) (fY : Nat → S → Prop) (fuel : Nat) (s : S) (hs : fY 0 s)
  (h0 : ∀ n s, fY l.length s → F (n + 1) s (l.length : Int) = some (.inl (fin s)))
  (h1 : ∀ n s (i : Nat) x, l[i]? = some x → fY i s → F (n + 1) s (i : Int) = (g x).elim (F n (st x s) ((i + 1 : Nat) : Int)) (fun b => some (.inr b)))
  (hI : ∀ s (i : Nat) x, l[i]? = some x → g x = none → fY i s → fY (i + 1) (st x s))
  (hf : l.length < fuel) : F fuel s 0 = some ((bO (fun _ => g) l).elim (.inl (fin (l.foldl (fun s x => st x s) s))) .inr) := by
 suffices H : ∀ c i fuel s, l.length - i = c → i ≤ l.length → l.length - i < fuel → fY i s → F fuel s (i : Int) = some ((ce (fun i => (l[i]?).bind g) i c).elim (.inl (fin ((l.drop i).foldl (fun s x => st x s) s))) .inr) by
  have := H _ 0 fuel s rfl (by omega) (by omega) hs
  simpa [bO] using this
 intro c
 induction c with
 | zero =>
  intro i fuel s hc hi hf hs
  obtain rfl : i = l.length := by omega
  cases fuel with
  | zero => omega
  | succ n => rw [h0 n s hs]; simp [ce]
 | succ c ih =>
  intro i fuel s hc hi hf hs
  cases fuel with
  | zero => omega
  | succ n =>
   have hlt : i < l.length := by omega
   have hx : l[i]? = some l[i] := List.getElem?_eq_getElem hlt
   rw [h1 n s i _ hx hs, ce]
   simp only [hx, Option.bind_some]
   cases hg : g l[i] with
   | some b => rfl
   | none =>
    rw [List.drop_eq_getElem_cons hlt, List.foldl_cons]
    exact ih (i + 1) n _ (by omega) (by omega) (by omega) (hI s i _ hx hg hs)
structure BG (g : ag) : Prop where
 n : g.nodes.length ≤ 150
 e : g.edges.length ≤ 150
def gh (n : Int) : Bool := decide (n ≥ 0) && decide (n ≤ 99)
def i6 (m : Int) (e : Edge) : Bool := gh e.typ && (decide (e.frm ≥ 0) && (decide (e.frm < m) && (decide (e.to ≥ 0) && decide (e.to < m))))
def l7 (g : ag) : Int :=
 cond (decide ((g.nodes.length : Int) > 40) || decide ((g.edges.length : Int) > 80)) 3 (cond (g.nodes.any fun n => !gh n) 6 (cond (g.edges.any fun e => !i6 g.nodes.length e) 6 0))
theorem u9 (n : Int) : bB n = some (gh n, ()) := by simp only [bB, eY, jO, Option.bind_some, gh]
theorem wb (e : Edge) (m : Int) : bY e m = some (i6 m e, ()) := by simp only [bY, u9, eY, jO, Option.bind_some, i6]
theorem p0 (a b : Int) : cR a b = some (decide (a ≥ 0) && decide (a ≤ b), ()) := by simp only [cR, eY, jO, Option.bind_some]
theorem vV (e : Edge) {m : Nat} (h : m ≤ 1000) : gM e m = some (i6 m e, ()) := by
 have e7 : IntKind.i64.wrap ((m : Int) - 1) = (m : Int) - 1 := jE (by omega) (by omega)
 have e8 : ∀ z : Int, decide (z ≤ (m : Int) - 1) = decide (z < (m : Int)) := fun z => decide_eq_decide.2 (by omega)
 simp only [gM, p0, eY, jO, Option.bind_some, i6, gh, e7, e8, Bool.and_assoc]
theorem sK {α B : Type} (p : α → Bool) (b : B) (l : List α) : bO (fun _ x => cond (p x) (some b) none) l = cond (l.any p) (some b) none := bS p b l
theorem fD {R B : Type} (c : Bool) (b : B) (a : R) : ((cond c (some b) none).elim (Sum.inl a) Sum.inr : Sum R B) = cond c (.inr b) (.inl a) := by cases c <;> rfl
theorem kA {k : Nat} {g : ag} (hg : BG g) (hk : 200 < k) : ct g = some (l7 g, ()) ∧ scarfjointref05_Valid k g = some (l7 g, ()) := by
 have hn := hg.n
 have he := hg.e
 have l1 := bP (F := scarfjointref05_Valid.l0 g) g.nodes (g, ()) (fun _ x => cond (!gh x) (some (6, ())) none) k (fun n => by simp only [scarfjointref05_Valid.l0, ar, cond_false]) (fun n i x hx hp => by
  simp only [scarfjointref05_Valid.l0, aL (aM hx), cond_true, idx_some hx, Option.bind_some, u9, cY, wS (show i < 4611686018427387904 by have := aM hx; omega)]) (by omega)
 have l2 := bP (F := scarfjointref05_Valid.l2 g) g.edges () (fun _ x => cond (!i6 g.nodes.length x) (some (6, ())) none) k (fun n => by simp only [scarfjointref05_Valid.l2, ar, cond_false]) (fun n i x hx hp => by
  simp only [scarfjointref05_Valid.l2, aL (aM hx), cond_true, idx_some hx, Option.bind_some, wb, cY, wS (show i < 4611686018427387904 by have := aM hx; omega)]) (by omega)
 rw [bS (fun x => !gh x)] at l1
 rw [bS (fun x => !i6 g.nodes.length x)] at l2
 have c1 := bF (l := g.nodes) (q := fun z2 => eX z2.1) (p := fun n => !gh n) (fun x _ => by simp only [eX, p0, Option.bind_some, gh]) (cP hn (by omega))
 have c2 := bF (l := g.edges) (q := fun z2 => eU z2.1 g) (p := fun n => !i6 g.nodes.length n) (fun x _ => by simp only [eU, vV x (show g.nodes.length ≤ 1000 by omega), Option.bind_some]) (cP he (by omega))
 refine ⟨by simp only [ct, l7, mU, pu, c1, c2, eY, iM, Option.bind_some], ?_⟩
 simp only [scarfjointref05_Valid, l7, l1, eY, iM, Option.bind_some, fD]
 cases (decide ((g.nodes.length : Int) > 40) || decide ((g.edges.length : Int) > 80)) with
 | true => rfl
 | false =>
  cases (g.nodes.any fun n => !gh n) with
  | true => rfl
  | false =>
   simp only [cond_false, aJ, l2, Option.bind_some, fD]
   cases (g.edges.any fun e => !i6 g.nodes.length e) <;> rfl
structure AO (g : ag) : Prop where
 n : g.nodes.length ≤ 40
 e : g.edges.length ≤ 80
 node : ∀ x ∈ g.nodes, 0 ≤ x ∧ x ≤ 99
 edge : ∀ x ∈ g.edges, 0 ≤ x.typ ∧ x.typ ≤ 99 ∧ 0 ≤ x.frm ∧ x.frm < g.nodes.length ∧ 0 ≤ x.to ∧ x.to < g.nodes.length
theorem k7 {g : ag} (h : l7 g = 0) : AO g := by
 simp only [l7] at h
 cases h1 : (decide ((g.nodes.length : Int) > 40) || decide ((g.edges.length : Int) > 80)) with
 | true => rw [h1] at h; cases h
 | false =>
  cases h2 : (g.nodes.any fun n => !gh n) with
  | true => rw [h1, h2] at h; cases h
  | false =>
   cases h3 : (g.edges.any fun e => !i6 g.nodes.length e) with
   | true => rw [h1, h2, h3] at h; cases h
   | false =>
    simp at h1
    rw [List.any_eq_false] at h2 h3
    refine ⟨by omega, by omega, fun x hx => ?_, fun x hx => ?_⟩
    ·have := h2 x hx; simp [gh] at this; omega
    ·have := h3 x hx; simp [i6, gh] at this; omega
def sA (t : ad) (g : ag) : Bool := !(g.nodes.any fun n => decide (n ≥ (t.nodes.length : Int))) && !(g.edges.any fun x => decide (x.typ ≥ (t.edges.length : Int)))
theorem kj {α : Type} {l : List α} {p q : α → Bool} (h : ∀ x ∈ l, p x = q x) : l.any p = l.any q := by
 induction l with
 | nil => rfl
 | cons x l ih => rw [List.any_cons, List.any_cons, h x (by simp), ih fun y hy => h y (by simp [hy])]
theorem wI {t : ad} {g : ag} (hg : BG g) : gG t g = some (sA t g, ()) := by
 have hn := hg.n
 have he := hg.e
 have c1 := bF (l := g.nodes) (q := fun z2 => gp z2.1 t) (p := fun n => decide (n ≥ (t.nodes.length : Int))) (fun x _ => rfl) (cP hn (by omega))
 have c2 := bF (l := g.edges) (q := fun z2 => gj z2.1 t) (p := fun x => decide (x.typ ≥ (t.edges.length : Int))) (fun x _ => rfl) (cP he (by omega))
 simp only [gG, mU, pu, c1, c2, Option.bind_some, eY, jO, sA]
theorem oN {k : Nat} {t : ad} {g : ag} (hg : AO g) (hk : 200 < k) : scarfjointref17_Typed k t g = some (sA t g, ()) := by
 have hn := hg.n
 have he := hg.e
 have l1 := bP (F := scarfjointref17_Typed.l0 t g) g.nodes (t, g, ()) (fun _ x => cond (decide (x < 0) || decide (x ≥ (t.nodes.length : Int))) (some (false, ())) none) k (fun n => by simp only [scarfjointref17_Typed.l0, ar, cond_false]) (fun n i x hx hp => by
  simp only [scarfjointref17_Typed.l0, aL (aM hx), cond_true, idx_some hx, Option.bind_some, eY, iM, cY, wS (show i < 4611686018427387904 by have := aM hx; omega)]) (by omega)
 have l2 := bP (F := scarfjointref17_Typed.l2 t g) g.edges () (fun _ x => cond (decide (x.typ < 0) || decide (x.typ ≥ (t.edges.length : Int))) (some (false, ())) none) k (fun n => by simp only [scarfjointref17_Typed.l2, ar, cond_false]) (fun n i x hx hp => by
  simp only [scarfjointref17_Typed.l2, aL (aM hx), cond_true, idx_some hx, Option.bind_some, eY, iM, cY, wS (show i < 4611686018427387904 by have := aM hx; omega)]) (by omega)
 rw [bS (fun x => decide (x < 0) || decide (x ≥ (t.nodes.length : Int)))] at l1
 rw [bS (fun x : Edge => decide (x.typ < 0) || decide (x.typ ≥ (t.edges.length : Int)))] at l2
 rw [kj (q := fun n => decide (n ≥ (t.nodes.length : Int))) (fun x hx => by have := hg.node x hx; rw [Bool.eq_iff_iff]; simp; omega)] at l1
 rw [kj (q := fun x : Edge => decide (x.typ ≥ (t.edges.length : Int))) (fun x hx => by have := hg.edge x hx; rw [Bool.eq_iff_iff]; simp; omega)] at l2
 simp only [scarfjointref17_Typed, l1, Option.bind_some, fD, sA]
 cases (g.nodes.any fun n => decide (n ≥ (t.nodes.length : Int))) with
 | true => rfl
 | false =>
  simp only [cond_false, aJ, l2, Option.bind_some, fD]
  cases (g.edges.any fun x => decide (x.typ ≥ (t.edges.length : Int))) <;> rfl
theorem qe {t : ad} {g : ag} (h : sA t g = true) : (∀ x ∈ g.nodes, x < t.nodes.length) ∧ ∀ x ∈ g.edges, x.typ < t.edges.length := by
 simp only [sA, Bool.and_eq_true, Bool.not_eq_true', List.any_eq_false, decide_eq_true_eq] at h
 exact ⟨fun x hx => by have := h.1 x hx; omega, fun x hx => by have := h.2 x hx; omega⟩
def kw (t : ad) (a : Int) : Bool := decide (a ≥ 0) && decide (a < (t.nodes.length : Int))
theorem qH {k : Nat} {t : ad} (ht : BT t) (hk : 2000 < k) (l : List Int) (hl : l.length ≤ 1000) : eK k t l = some (cond (jr t != 0) (jr t) (cond (l.any fun a => !kw t a) 6 0), ()) := by
 have c1 := bF (l := l) (q := fun z2 => eV z2.1 t) (p := fun a => !kw t a) (fun x _ => by
  simp only [eV, eY, iM, Option.bind_some, kw]; congr 1; rw [Bool.eq_iff_iff]; simp <;> omega) (cP hl (by omega))
 simp only [eK, (gT ht hk).1, Option.bind_some, mU, c1, eY]
theorem m3 {k : Nat} {t : ad} (ht : BT t) (hk : 2000 < k) (a b : Int) : aN k t a b = some (cond (jr t != 0) (jr t) (cond (!kw t a || !kw t b) 6 0), ()) := by
 have hn := ht.n
 have e7 : IntKind.i64.wrap ((t.nodes.length : Int) - 1) = (t.nodes.length : Int) - 1 := jE (by omega) (by omega)
 have e8 : ∀ z : Int, decide (z ≤ (t.nodes.length : Int) - 1) = decide (z < (t.nodes.length : Int)) := fun z => decide_eq_decide.2 (by omega)
 simp only [aN, ah, (gT ht hk).2, Option.bind_some, eY, jO, iM, e7, e8, kw]
theorem k8 {α : Type} {l : List α} (h : l.length ≤ 1000000) : iR l = some (l, ()) := by rw [iR, aR h]; rfl
theorem mn {t : ad} (ht : BT t) (a : Int) : ∀ y ∈ bj t a, BA y := kU ht 32 a
theorem jZ {t : ad} (ht : BT t) (a : Int) : (bj t a).length ≤ 960 := jt ht 32 a
theorem rm {k : Nat} {t : ad} (ht : vF t) (hk : 2000 < k) {a : Int} (ha : kw t a = true) : cS k t a = some (bj t a, ()) ∧ aD k t a = some (bj t a, ()) := by
 simp [kw] at ha
 have hn := ht.n
 obtain ⟨i, rfl⟩ : ∃ i : Nat, a = i := ⟨a.toNat, by omega⟩
 exact mW ht.b 31 k 32 i (by omega) (by omega) (by omega) (by omega) (by omega) fun j x _ hx => (ht.par j x hx).2
theorem rD (x : bQ) : (⟨x.name, x.low, x.high, x.names⟩ : bQ) = x := rfl
theorem rH {k : Nat} {t : ad} (ht : vF t) (hk : 2000 < k) (h0 : jr t = 0) (a : Int) : types_Attrs k t a = some (cond (kw t a) (bj t a) [], cond (kw t a) 0 6, ()) := by
 rw [types_Attrs, qH ht.b hk [a] (by simp)]
 simp only [Option.bind_some, h0, bne_self_eq_false, cond_false, List.any_cons, List.any_nil, Bool.or_false]
 cases ha : kw t a with
 | false => rfl
 | true =>
  have hl := jZ ht.b a
  have hm := mn ht.b a
  simp only [(rm ht hk ha).1, Bool.not_true, cond_false, bne_self_eq_false, Option.bind_some]
  generalize bj t a = l at *
  have H : ∀ c i fuel, l.length - i = c → i ≤ l.length → l.length - i < fuel → types_Attrs.l0 l.length fuel l (i : Int) = some (l, ()) := by
   intro c
   induction c with
   | zero =>
    intro i fuel hc hi hf
    obtain rfl : i = l.length := by omega
    cases fuel with
    | zero => omega
    | succ n => simp only [types_Attrs.l0, ar, cond_false]
   | succ c ih =>
    intro i fuel hc hi hf
    cases fuel with
    | zero => omega
    | succ n =>
     have hlt : i < l.length := by omega
     have hx : l[i]? = some l[i] := List.getElem?_eq_getElem hlt
     have hb := hm _ (List.getElem_mem hlt)
     simp only [types_Attrs.l0, aL hlt, ig, Bool.and_true, cond_true, Int.toNat_natCast, fg hx, Option.bind_some, k8 (show l[i].names.length ≤ 1000000 by have := hb.2.1; omega), wS (show i < 4611686018427387904 by omega), rD, List.set_getElem_self]
     exact ih (i + 1) n (by omega) (by omega) (by omega)
  have := H _ 0 (Int.toNat (l.length : Int) + 1) rfl (by omega) (by omega)
  rw [show ((0 : Nat) : Int) = 0 from rfl] at this
  rw [this]; rfl
theorem m5 {α : Type} (l : List α) : (List.range l.length).flatMap (fun i => (l[i]?).elim [] fun x => [x]) = l := by
 suffices H : ∀ n, n ≤ l.length → (List.range n).flatMap (fun i => (l[i]?).elim [] fun x => [x]) = l.take n by
  rw [H _ (Nat.le_refl _)]; simp
 intro n
 induction n with
 | zero => intro _; simp
 | succ n ih =>
  intro hn
  have hx : l[n]? = some l[n] := List.getElem?_eq_getElem (by omega)
  rw [List.range_succ, List.flatMap_append, ih (by omega), List.take_succ]
  simp [hx]
theorem p8 {k : Nat} {t : ad} (ht : vF t) (hk : 2000 < k) (h0 : jr t = 0) (a : Int) : scarfjointref04_Attrs k t a = some (cond (kw t a) (bj t a) [], cond (kw t a) 0 6, ()) := by
 rw [scarfjointref04_Attrs, m3 ht.b hk a a]
 simp only [Option.bind_some, h0, bne_self_eq_false, cond_false, Bool.or_self]
 cases ha : kw t a with
 | false => rfl
 | true =>
  have hl := jZ ht.b a
  have hm := mn ht.b a
  simp only [(rm ht hk ha).2, Bool.not_true, cond_false, bne_self_eq_false, Option.bind_some]
  generalize bj t a = l at *
  rw [gY (F := scarfjointref04_Attrs.l0 l) l.length (fun i => (l[i]?).elim [] fun x => [x]) (fun acc => some (acc, ())) [] k (fun n acc => by simp only [scarfjointref04_Attrs.l0, ar, cond_false]) (fun n acc i hi hacc => by
   have hx : l[i]? = some l[i] := List.getElem?_eq_getElem hi
   have hb := (hm _ (List.getElem_mem hi)).2.1
   have hal : acc.length ≤ 1 * i := by rw [hacc, List.nil_append]; exact cy (fun j => by cases l[j]? <;> simp) i
   simp only [scarfjointref04_Attrs.l0, aL hi, ig, Bool.and_true, cond_true, Int.toNat_natCast, fg hx, Option.bind_some, List.nil_append, List.length_nil, List.length_cons, Nat.zero_add, aR (show l[i].names.length ≤ 1000000 by omega), aR (show acc.length + 1 ≤ 1000000 by omega), wS (show i < 4611686018427387904 by omega), rD, hx, Option.elim]) (by omega), List.nil_append, m5]
  rfl
end Go.Ev.Pl
end
section
set_option linter.unusedVariables false
namespace Go.Ev.Pl
structure BP (p : ai) : Prop where
 g : BG p.graph
 s : p.slots.length ≤ 15
 t : p.tests.length ≤ 15
def i9 (n : Int) (x : nt) : Bool := decide (x.var ≥ -1) && (decide (x.var < n) && (decide (x.add ≥ -1000000) && decide (x.add ≤ 1000000)))
def fJ (n : Int) (x : dA) : Int := cond (x.kind != 1 && x.kind != 2) 1 (cond (!i9 n x.left || !i9 n x.right) 6 0)
def rp (n : Int) (l : List dA) : Int := cond (decide (n < 0) || decide (n > 12)) 6 (cond (decide ((l.length : Int) > 40)) 3 (jv (bO (fun _ x => cond (fJ n x != 0) (some (fJ n x, ())) none) l)))
theorem zQ (n : Int) (x : dA) : eE n x = some (fJ n x, ()) := by
 simp only [eE, dH, eY, jO, iM, Option.bind_some, fJ, i9]
theorem yG (n : Int) (x : dA) : cI n x = some (fJ n x, ()) := by
 have e : ∀ z : nt, (decide (z.var < -1) || (decide (z.var ≥ n) || (decide (z.add < -1000000) || decide (z.add > 1000000)))) = !i9 n z := fun z => by
  rw [Bool.eq_iff_iff]; simp [i9] <;> omega
 simp only [cI, bT, eY, jO, iM, Option.bind_some, fJ, e]
 cases i9 n x.left <;> cases i9 n x.right <;> rfl
theorem wD {k : Nat} {n : Int} {l : List dA} (hl : l.length ≤ 1000) (hk : 2000 < k) : difference_Valid n l = some (rp n l, ()) ∧ scarfjointref03_Valid k n l = some (rp n l, ()) := by
 have l1 := bP (F := difference_Valid.l0 n l l.length) l () (fun _ x => cond (fJ n x != 0) (some (fJ n x, ())) none) (Int.toNat (l.length : Int) + 1) (fun m => by simp only [difference_Valid.l0, ar, cond_false]) (fun m i x hx hp => by
  simp only [difference_Valid.l0, aL (aM hx), cond_true, idx_some hx, Option.bind_some, zQ, cY, wS (show i < 4611686018427387904 by have := aM hx; omega)]) (by omega)
 have l2 := bP (F := scarfjointref03_Valid.l0 n l) l () (fun _ x => cond (fJ n x != 0) (some (fJ n x, ())) none) k (fun m => by simp only [scarfjointref03_Valid.l0, ar, cond_false]) (fun m i x hx hp => by
  simp only [scarfjointref03_Valid.l0, aL (aM hx), cond_true, idx_some hx, Option.bind_some, yG, cY, wS (show i < 4611686018427387904 by have := aM hx; omega)]) (by omega)
 constructor
 ·simp only [difference_Valid, l1, rp, eY, iM, Option.bind_some]
  cases (decide (n < 0) || decide (n > 12)) <;> cases decide ((l.length : Int) > 40) <;> first | rfl | exact kR _
 ·simp only [scarfjointref03_Valid, l2, rp, eY, iM, Option.bind_some]
  cases (decide (n < 0) || decide (n > 12)) <;> cases decide ((l.length : Int) > 40) <;> first | rfl | exact kR _
def jK (t : ad) (p : ai) (node attr : Int) : Bool :=
 decide (node ≥ 0) && (decide (node < (p.graph.nodes.length : Int)) && match aB p.graph.nodes node with | some x => decide (attr ≥ 0) && decide (attr < ((bj t x).length : Int)) | none => false)
structure jN (t : ad) (g : ag) : Prop where
 ok : vF t
 e : jr t = 0
 gr : AO g
 ty : sA t g = true
theorem ma {t : ad} {g : ag} (h : jN t g) {x : Int} (hx : x ∈ g.nodes) : kw t x = true := by
 have h1 := h.gr.node x hx
 have h2 := (qe h.ty).1 x hx
 simp [kw]; omega
theorem xP {k : Nat} {t : ad} {p : ai} (h : jN t p.graph) (hk : 2000 < k) (s : dR) : ∃ a, ek k t p s = some (a, jK t p s.node s.attr, ()) := by
 have hn := h.gr.n
 have e7 : IntKind.i64.wrap ((p.graph.nodes.length : Int) - 1) = (p.graph.nodes.length : Int) - 1 := jE (by omega) (by omega)
 simp only [ek, be, eY, jO, Option.bind_some, jK, e7]
 by_cases h1 : 0 ≤ s.node ∧ s.node < p.graph.nodes.length
 ·obtain ⟨x, x1, x2, x3⟩ := bl h1.1 h1.2
  have i1 := ma h x3
  have d1 : decide (s.node ≥ 0) = true := decide_eq_true h1.1
  have d2 : decide (s.node ≤ (p.graph.nodes.length : Int) - 1) = true := decide_eq_true (by omega)
  have d3 : decide (s.node < (p.graph.nodes.length : Int)) = true := decide_eq_true h1.2
  have hl := jZ h.ok.b x
  have e8 : IntKind.i64.wrap (((bj t x).length : Int) - 1) = ((bj t x).length : Int) - 1 := jE (by omega) (by omega)
  simp only [x1, d1, d2, d3, Option.bind_some, rH h.ok hk h.e, i1, cond_true, Bool.and_self, Bool.not_true, cond_false, e8, Bool.true_and]
  by_cases h2 : 0 ≤ s.attr ∧ s.attr < (bj t x).length
  ·obtain ⟨y, y1, y2, y3⟩ := bl h2.1 h2.2
   have d4 : decide (s.attr ≥ 0) = true := decide_eq_true h2.1
   have d5 : decide (s.attr ≤ ((bj t x).length : Int) - 1) = true := decide_eq_true (by omega)
   have d6 : decide (s.attr < ((bj t x).length : Int)) = true := decide_eq_true h2.2
   have d7 : decide (0 ≤ s.attr) = true := decide_eq_true h2.1
   simp only [d4, d5, d6, d7, Bool.and_self, Bool.not_true, cond_false, cond_true, nth, y2, Option.bind_some]
   exact ⟨_, rfl⟩
  ·have d4 : (decide (s.attr ≥ 0) && decide (s.attr ≤ ((bj t x).length : Int) - 1)) = false := by simp; omega
   have d5 : (decide (s.attr ≥ 0) && decide (s.attr < ((bj t x).length : Int))) = false := by simp; omega
   simp only [d4, d5]
   exact ⟨_, rfl⟩
 ·have d1 : (decide (s.node ≥ 0) && decide (s.node ≤ (p.graph.nodes.length : Int) - 1)) = false := by simp; omega
  have d2 : ∀ b, (decide (s.node ≥ 0) && (decide (s.node < (p.graph.nodes.length : Int)) && b)) = false := fun b => by
   rw [← Bool.and_assoc]; simp; intros; omega
  simp only [d1, d2]
  exact ⟨_, rfl⟩
theorem xz {k : Nat} {t : ad} {p : ai} (h : jN t p.graph) (hk : 2000 < k) (node attr : Int) : ∃ a, cD k t p node attr = some (a, jK t p node attr, ()) := by
 have hn := h.gr.n
 simp only [cD, eY, iM, Option.bind_some, jK]
 by_cases h1 : 0 ≤ node ∧ node < p.graph.nodes.length
 ·obtain ⟨x, x1, x2, x3⟩ := bl h1.1 h1.2
  have i1 := ma h x3
  have d1 : decide (node < 0) = false := decide_eq_false (by omega)
  have d2 : decide (node ≥ (p.graph.nodes.length : Int)) = false := decide_eq_false (by omega)
  have d3 : decide (node < (p.graph.nodes.length : Int)) = true := decide_eq_true h1.2
  have d0 : decide (node ≥ 0) = true := decide_eq_true h1.1
  simp only [x1, d0, d1, d2, d3, Option.bind_some, p8 h.ok hk h.e, i1, cond_true, Bool.or_self, cond_false, Bool.true_and, bne_self_eq_false, Bool.false_or]
  by_cases h2 : 0 ≤ attr ∧ attr < (bj t x).length
  ·obtain ⟨y, y1, y2, y3⟩ := bl h2.1 h2.2
   have d4 : decide (attr ≥ 0) = true := decide_eq_true h2.1
   have d5 : decide (attr < 0) = false := decide_eq_false (by omega)
   have d6 : decide (attr < ((bj t x).length : Int)) = true := decide_eq_true h2.2
   have d7 : decide (0 ≤ attr) = true := decide_eq_true h2.1
   have d8 : decide (attr ≥ ((bj t x).length : Int)) = false := decide_eq_false (by omega)
   simp only [d4, d5, d6, d7, d8, Bool.or_self, Bool.and_self, cond_false, cond_true, nth, y2, Option.bind_some]
   exact ⟨_, rfl⟩
  ·have d4 : (decide (attr < 0) || decide (attr ≥ ((bj t x).length : Int))) = true := by simp; omega
   have d5 : (decide (attr ≥ 0) && decide (attr < ((bj t x).length : Int))) = false := by simp; omega
   simp only [d4, d5]
   exact ⟨_, rfl⟩
 ·have d1 : (decide (node < 0) || decide (node ≥ (p.graph.nodes.length : Int))) = true := by simp; omega
  have d2 : ∀ b, (decide (node ≥ 0) && (decide (node < (p.graph.nodes.length : Int)) && b)) = false := fun b => by
   rw [← Bool.and_assoc]; simp; intros; omega
  simp only [d1, d2]
  exact ⟨_, rfl⟩
def dm (t : ad) (p : ai) (s : dR) : Bool := !jK t p s.node s.attr || !i9 p.vars s.term
def oH (p : ai) (i : Nat) : Bool := p.slots.any fun s => s.term.var == (i : Int)
def iL (p : ai) (v : Nat) : Bool := (List.range' v (p.vars.toNat - v)).all (oH p)
def iO (t : ad) (p : ai) : Int :=
 cond (jr t != 0) (jr t) (cond (l7 p.graph != 0) (l7 p.graph) (cond (!sA t p.graph) 13 (cond (decide (p.vars < 0) || decide (p.vars > 12)) 6
  (cond (decide ((p.slots.length : Int) > 10) || decide ((p.tests.length : Int) > 10)) 3 (cond (p.slots.any (dm t p)) 6
   (cond (rp p.vars p.tests != 0) (rp p.vars p.tests) (cond (!iL p 0) 9 0)))))))
def rf (x : dR) (s : List Bool) : List Bool := cond (decide (x.term.var ≥ 0)) (s.set (Int.toNat x.term.var) true) s
theorem nC (x : dR) (s : List Bool) : (rf x s).length = s.length := by simp only [rf]; cases decide (x.term.var ≥ 0) <;> simp
theorem qz (l : List dR) : ∀ s, (l.foldl (fun s x => rf x s) s).length = s.length := by
 induction l with
 | nil => intro s; rfl
 | cons x l ih => intro s; rw [List.foldl_cons, ih, nC]
theorem rT (l : List dR) (i : Nat) : ∀ s : List Bool, i < s.length → (l.foldl (fun s x => rf x s) s)[i]? = some (s[i]?.getD false || l.any fun x => x.term.var == (i : Int)) := by
 induction l with
 | nil => intro s h; simp [h]
 | cons x l ih =>
  intro s h
  rw [List.foldl_cons, ih _ (by rw [nC]; exact h), List.any_cons, ← Bool.or_assoc]
  congr 2
  simp only [rf]
  by_cases h1 : x.term.var ≥ 0
  ·rw [decide_eq_true h1, cond_true]
   by_cases h2 : x.term.var = i
   ·have : x.term.var.toNat = i := by omega
    rw [this, h2]; simp [h]
   ·have : x.term.var.toNat ≠ i := by omega
    rw [List.getElem?_set_ne this]
    have : (x.term.var == (i : Int)) = false := by simpa using h2
    rw [this]; simp
  ·have : (x.term.var == (i : Int)) = false := by simp; omega
   rw [decide_eq_false h1, cond_false, this]; simp
theorem tb {k : Nat} {t : ad} {p : ai} (ht : BT t) (hp : BP p) (hk : 2000 < k) : attribute_Valid k t p = some (iO t p, ()) := by
 have hg := hp.g
 have hs := hp.s
 have h1 := hg.n
 have h2 := hg.e
 have c1 := bF (l := p.graph.nodes) (q := fun z2 => dO z2.1 t) (p := fun n => decide (n ≥ (t.nodes.length : Int))) (fun x _ => rfl) (cP h1 (by omega))
 have c2 := bF (l := p.graph.edges) (q := fun z2 => dS z2.1 t) (p := fun x => decide (x.typ ≥ (t.edges.length : Int))) (fun x _ => rfl) (cP h2 (by omega))
 have c3 : ((p.graph.nodes.any fun n => decide (n ≥ (t.nodes.length : Int))) || (p.graph.edges.any fun x => decide (x.typ ≥ (t.edges.length : Int)))) = !sA t p.graph := by simp [sA]
 have c4 : (!(decide (p.vars ≥ 0) && decide (p.vars ≤ 12))) = (decide (p.vars < 0) || decide (p.vars > 12)) := by rw [Bool.eq_iff_iff]; simp <;> omega
 simp only [attribute_Valid, be, iO, (gT ht hk).1, (kA hg (show 200 < k by omega)).1, mU, pu, c1, c2, c3, c4, eY, iM, jO, Option.bind_some]
 cases h3 : (jr t != 0) with
 | true => rfl
 | false =>
  cases h4 : (l7 p.graph != 0) with
  | true => rfl
  | false =>
   cases h5 : sA t p.graph with
   | false => rfl
   | true =>
    cases h6 : (decide (p.vars < 0) || decide (p.vars > 12)) with
    | true => rfl
    | false =>
     cases h7 : (decide ((p.slots.length : Int) > 10) || decide ((p.tests.length : Int) > 10)) with
     | true => rfl
     | false =>
      have ty0 : jr t = 0 := by simpa using h3
      have hgt : jN t p.graph := ⟨kG ht ty0, ty0, k7 (by simpa using h4), h5⟩
      have hv : 0 ≤ p.vars ∧ p.vars ≤ 12 := by simp at h6; omega
      obtain ⟨V, hV⟩ : ∃ V : Nat, p.vars = V := ⟨p.vars.toNat, by omega⟩
      have hc : (decide (0 ≤ p.vars) && decide (p.vars ≤ p.vars) && bX (Int.toNat p.vars)) = true := by
       rw [aR (by omega)]; simp; omega
      have L := wo (F := attribute_Valid.l0 k t p p.slots p.slots.length) p.slots (fun s => (p, s, ())) (fun x => cond (dm t p x) (some (6, ())) none) rf (fun _ s => s.length = V) (Int.toNat (p.slots.length : Int) + 1) (List.replicate (Int.toNat p.vars) false) (by rw [List.length_replicate]; omega)
       (fun n s _ => by simp only [attribute_Valid.l0, ar, cond_false]) (fun n s i x hx hs' => by
        obtain ⟨a, ha⟩ := xP hgt hk x
        have hi := aM hx
        have e7 : IntKind.i64.wrap (p.vars - 1) = p.vars - 1 := jE (by omega) (by omega)
        have e8 : (!jK t p x.node x.attr || (!(decide (x.term.var ≥ -1) && decide (x.term.var ≤ p.vars - 1)) || !(decide (x.term.add ≥ -1000000) && decide (x.term.add ≤ 1000000)))) = dm t p x := by
         simp only [dm, i9]; congr 1; rw [Bool.eq_iff_iff]; simp <;> omega
        simp only [attribute_Valid.l0, be, aL hi, cond_true, idx_some hx, Option.bind_some, ha, eY, jO, iM, e7, e8, cY, wS (show i < 4611686018427387904 by omega)]
        cases hb : dm t p x with
        | true => rfl
        | false =>
         simp only [cond_false, rf]
         by_cases h0 : x.term.var ≥ 0
         ·have hlt : x.term.var < s.length := by
           simp [dm, i9] at hb; omega
          have hn : x.term.var.toNat < s.length := by omega
          have h0' : 0 ≤ x.term.var := h0
          simp only [h0, h0', hlt, decide_true, Bool.and_self, cond_true, nth, List.getElem?_eq_getElem hn, Option.bind_some]
         ·simp only [h0, decide_false, cond_false]) (fun s i x _ _ h => by rw [nC]; exact h) (by omega)
      simp only [cond_false, Bool.not_true, hc, cond_true, L, Option.bind_some, sK (dm t p), fD]
      cases p.slots.any (dm t p) with
      | true => rfl
      | false =>
       simp only [cond_false, aJ, (wD (k := k) (n := p.vars) (show p.tests.length ≤ 1000 by have := hp.t; omega) hk).1, Option.bind_some, eY]
       rw [xZ false (cP (m := 1000) (by rw [qz]; simp; omega) (by omega))]
       have key : (List.foldl (fun s x => rf x s) (List.replicate (Int.toNat p.vars) false) p.slots).any (false == ·) = !iL p 0 := by
        rw [Bool.eq_iff_iff]
        simp only [List.any_eq_true, beq_iff_eq, Bool.not_eq_true', iL, Nat.sub_zero, List.all_eq_false, List.mem_range'_1, Nat.zero_le, true_and, Nat.zero_add]
        constructor
        ·rintro ⟨b, hb, rfl⟩
         obtain ⟨i, hi, hb⟩ := List.getElem_of_mem hb
         have hi' : i < (List.replicate (Int.toNat p.vars) false).length := by rw [qz] at hi; exact hi
         have := rT p.slots i (List.replicate (Int.toNat p.vars) false) hi'
         rw [List.getElem?_eq_getElem hi, hb] at this
         refine ⟨i, by simpa using hi', ?_⟩
         simp at hi'
         simp [hi'] at this
         simpa [oH] using this
        ·rintro ⟨i, hi, hb⟩
         have hi' : i < (List.replicate (Int.toNat p.vars) false).length := by simpa using hi
         have := rT p.slots i (List.replicate (Int.toNat p.vars) false) hi'
         refine ⟨_, List.mem_of_getElem? this, ?_⟩
         simp only [oH] at hb
         simp [hi]; simpa using hb
       rw [key]
       simp only [Option.bind_some, eY]
theorem qh {k : Nat} {t : ad} {p : ai} (ht : BT t) (hp : BP p) (hk : 2000 < k) : scarfjointref21_Valid k t p = some (iO t p, ()) := by
 have hg := hp.g
 have hs := hp.s
 simp only [scarfjointref21_Valid, iO, (gT ht hk).2, (kA hg (show 200 < k by omega)).2, eY, iM, jO, Option.bind_some]
 cases h3 : (jr t != 0) with
 | true => rfl
 | false =>
  cases h4 : (l7 p.graph != 0) with
  | true => rfl
  | false =>
   have ty0 : jr t = 0 := by simpa using h3
   have hgr := k7 (show l7 p.graph = 0 by simpa using h4)
   simp only [cond_false, oN hgr (show 200 < k by omega), Option.bind_some]
   cases h5 : sA t p.graph with
   | false => rfl
   | true =>
    cases h6 : (decide (p.vars < 0) || decide (p.vars > 12)) with
    | true => rfl
    | false =>
     cases h7 : (decide ((p.slots.length : Int) > 10) || decide ((p.tests.length : Int) > 10)) with
     | true => rfl
     | false =>
      have hgt : jN t p.graph := ⟨kG ht ty0, ty0, hgr, h5⟩
      have hv : 0 ≤ p.vars ∧ p.vars ≤ 12 := by simp at h6; omega
      obtain ⟨V, hV⟩ : ∃ V : Nat, p.vars = V := ⟨p.vars.toNat, by omega⟩
      have l1 := bP (F := scarfjointref21_Valid.l0 k t p) p.slots (p, ()) (fun _ x => cond (dm t p x) (some (6, ())) none) k (fun n => by simp only [scarfjointref21_Valid.l0, ar, cond_false]) (fun n i x hx _ => by
       obtain ⟨a, ha⟩ := xz hgt hk x.node x.attr
       have hi := aM hx
       have e8 : (!jK t p x.node x.attr || (decide (x.term.var < -1) || (decide (x.term.var ≥ p.vars) || !(decide (x.term.add ≥ -1000000) && decide (x.term.add ≤ 1000000))))) = dm t p x := by
         simp only [dm, i9]; congr 1; rw [Bool.eq_iff_iff]; simp <;> omega
       simp only [scarfjointref21_Valid.l0, ck, aL hi, cond_true, idx_some hx, Option.bind_some, ha, eY, jO, iM, e8, cY, wS (show i < 4611686018427387904 by omega)]) (by omega)
      have oc : ∀ i : Nat, scarfjointref21_occurs k p i = some (oH p i, ()) := fun i => by
       have := bP (F := scarfjointref21_occurs.l0 i p) p.slots () (fun _ x => cond (x.term.var == (i : Int)) (some (true, ())) none) k (fun n => by simp only [scarfjointref21_occurs.l0, ar, cond_false]) (fun n j x hx _ => by
        simp only [scarfjointref21_occurs.l0, aL (aM hx), cond_true, idx_some hx, Option.bind_some, cY, wS (show j < 4611686018427387904 by have := aM hx; omega)]) (by omega)
       rw [scarfjointref21_occurs, this, bS (fun x : dR => x.term.var == (i : Int))]
       simp only [Option.bind_some, oH]
       cases (p.slots.any fun x => x.term.var == (i : Int)) <;> rfl
      have l2 := li (F := scarfjointref21_Valid.l2 k p) V () (fun i => cond (!oH p i) (some (9, ())) none) 0 (fun n i hi => by
       have : ¬ ((i : Int) < p.vars) := by omega
       simp [scarfjointref21_Valid.l2, this]) (fun n i _ hi _ => by
       have : (i : Int) < p.vars := by omega
       simp only [scarfjointref21_Valid.l2, this, decide_true, cond_true, oc, Option.bind_some, wS (show i < 4611686018427387904 by omega)]
       cases oH p i <;> rfl) k (by omega)
      have l3 : ce (fun i => cond (!oH p i) (some ((9 : Int), ())) none) 0 V = cond (!iL p 0) (some (9, ())) none := by
       have e : iL p 0 = (List.range' 0 V).all (oH p) := by simp [iL, hV]
       rw [e]
       clear e l2 l1 hV
       generalize 0 = j
       induction V generalizing j with
       | zero => rfl
       | succ V ih =>
        rw [ce, List.range'_succ, List.all_cons]
        cases oH p j with
        | false => rfl
        | true => simp only [Bool.not_true, cond_false, Bool.true_and]; exact ih (j + 1)
      rw [show ((0 : Nat) : Int) = 0 from rfl, Nat.sub_zero, l3] at l2
      simp only [cond_false, Bool.not_true, l1, Option.bind_some, bS (dm t p), fD]
      cases p.slots.any (dm t p) with
      | true => rfl
      | false =>
       simp only [cond_false, aJ, (wD (k := k) (n := p.vars) (show p.tests.length ≤ 1000 by have := hp.t; omega) hk).2, Option.bind_some, l2, fD]
       cases (rp p.vars p.tests != 0) with
       | true => rfl
       | false => cases iL p 0 <;> rfl
end Go.Ev.Pl
end
