/- Part of the proof that for every row of clauses, every atom and every source the law CustomTexts returns true. Conditions: none. -/
import Derived.Test.YtjdooijejbmbnaaGreatDoorPartE
import Derived.Test.YtjdooijejbmbnaaGreatDoorProg
import Derived.KernelRfl
set_option linter.unusedVariables false
set_option linter.unusedSimpArgs false
set_option linter.unusedSectionVars false
namespace Go.Abs
open Go
noncomputable def certB(P:Program)(f:FuncId):Option BFn:=(P.funcs[f]?).bind fun fn=>if fn.name == "runtime.NumGoroutine" then none else cFn P fn
end Go.Abs
namespace Go.Abs.Tz
open Go Go.Abs Go.Proofs
noncomputable def bOf(f:FuncId):BFn:=(certB Tryz.prog f).getD ⟨.skip,0,[]⟩
theorem bOf_ok{f:FuncId}(h:(certB Tryz.prog f).isSome=true):certB Tryz.prog f=some (bOf f):=by
 unfold bOf
 cases hc:certB Tryz.prog f with
 |none=>rw[hc]at h;cases h
 |some x=>rfl
attribute [irreducible] bOf
theorem c2:certB Tryz.prog 2=some b2:=by kernel_rfl
theorem c3:certB Tryz.prog 3=some b3:=by kernel_rfl
theorem c4:certB Tryz.prog 4=some b4:=by kernel_rfl
noncomputable def b5:BFn:=bOf 5
theorem c5:certB Tryz.prog 5=some b5:=bOf_ok (by kernel_rfl)
theorem c6:certB Tryz.prog 6=some b6:=by kernel_rfl
theorem c8:certB Tryz.prog 8=some b8:=by kernel_rfl
theorem c10:certB Tryz.prog 10=some b10:=by kernel_rfl
theorem c11:certB Tryz.prog 11=some b11:=by kernel_rfl
theorem c12:certB Tryz.prog 12=some b12:=by kernel_rfl
theorem c13:certB Tryz.prog 13=some b13:=by kernel_rfl
theorem c14:certB Tryz.prog 14=some b14:=by kernel_rfl
theorem c15:certB Tryz.prog 15=some b15:=by kernel_rfl
noncomputable def b16:BFn:=bOf 16
theorem c16:certB Tryz.prog 16=some b16:=bOf_ok (by kernel_rfl)
noncomputable def b17:BFn:=bOf 17
theorem c17:certB Tryz.prog 17=some b17:=bOf_ok (by kernel_rfl)
noncomputable def b18:BFn:=bOf 18
theorem c18:certB Tryz.prog 18=some b18:=bOf_ok (by kernel_rfl)
noncomputable def b19:BFn:=bOf 19
theorem c19:certB Tryz.prog 19=some b19:=bOf_ok (by kernel_rfl)
noncomputable def b20:BFn:=bOf 20
theorem c20:certB Tryz.prog 20=some b20:=bOf_ok (by kernel_rfl)
theorem c21:certB Tryz.prog 21=some b21:=by kernel_rfl
noncomputable def b22:BFn:=bOf 22
theorem c22:certB Tryz.prog 22=some b22:=bOf_ok (by kernel_rfl)
noncomputable def b23:BFn:=bOf 23
theorem c23:certB Tryz.prog 23=some b23:=bOf_ok (by kernel_rfl)
noncomputable def b24:BFn:=bOf 24
theorem c24:certB Tryz.prog 24=some b24:=bOf_ok (by kernel_rfl)
theorem c25:certB Tryz.prog 25=some b25:=by kernel_rfl
theorem c26:certB Tryz.prog 26=some b26:=by kernel_rfl
theorem c27:certB Tryz.prog 27=some b27:=by kernel_rfl
theorem c31:certB Tryz.prog 31=some b31:=by kernel_rfl
theorem c32:certB Tryz.prog 32=some b32:=by kernel_rfl
theorem c35:certB Tryz.prog 35=some b35:=by kernel_rfl
theorem c36:certB Tryz.prog 36=some b36:=by kernel_rfl
theorem c37:certB Tryz.prog 37=some b37:=by kernel_rfl
noncomputable def b38:BFn:=bOf 38
theorem c38:certB Tryz.prog 38=some b38:=bOf_ok (by kernel_rfl)
theorem c39:certB Tryz.prog 39=some b39:=by kernel_rfl
theorem c40:certB Tryz.prog 40=some b40:=by kernel_rfl
noncomputable def b41:BFn:=bOf 41
theorem c41:certB Tryz.prog 41=some b41:=bOf_ok (by kernel_rfl)
theorem c42:certB Tryz.prog 42=some b42:=by kernel_rfl
theorem c43:certB Tryz.prog 43=some b43:=by kernel_rfl
noncomputable def b44:BFn:=bOf 44
theorem c44:certB Tryz.prog 44=some b44:=bOf_ok (by kernel_rfl)
noncomputable def b45:BFn:=bOf 45
theorem c45:certB Tryz.prog 45=some b45:=bOf_ok (by kernel_rfl)
noncomputable def b46:BFn:=bOf 46
theorem c46:certB Tryz.prog 46=some b46:=bOf_ok (by kernel_rfl)
theorem c47:certB Tryz.prog 47=some b47:=by kernel_rfl
theorem c48:certB Tryz.prog 48=some b48:=by kernel_rfl
theorem c49:certB Tryz.prog 49=some b49:=by kernel_rfl
theorem c50:certB Tryz.prog 50=some b50:=by kernel_rfl
theorem c51:certB Tryz.prog 51=some b51:=by kernel_rfl
theorem c52:certB Tryz.prog 52=some b52:=by kernel_rfl
theorem c53:certB Tryz.prog 53=some b53:=by kernel_rfl
theorem c54:certB Tryz.prog 54=some b54:=by kernel_rfl
theorem c55:certB Tryz.prog 55=some b55:=by kernel_rfl
theorem c56:certB Tryz.prog 56=some b56:=by kernel_rfl
theorem c57:certB Tryz.prog 57=some b57:=by kernel_rfl
theorem c58:certB Tryz.prog 58=some b58:=by kernel_rfl
theorem c69:certB Tryz.prog 69=some b69:=by kernel_rfl
theorem c70:certB Tryz.prog 70=some b70:=by kernel_rfl
theorem c72:certB Tryz.prog 72=some b72:=by kernel_rfl
theorem c73:certB Tryz.prog 73=some b73:=by kernel_rfl
theorem c74:certB Tryz.prog 74=some b74:=by kernel_rfl
theorem c76:certB Tryz.prog 76=some b76:=by kernel_rfl
theorem c78:certB Tryz.prog 78=some b78:=by kernel_rfl
theorem c79:certB Tryz.prog 79=some b79:=by kernel_rfl
theorem c80:certB Tryz.prog 80=some b80:=by kernel_rfl
noncomputable def b81:BFn:=bOf 81
theorem c81:certB Tryz.prog 81=some b81:=bOf_ok (by kernel_rfl)
noncomputable def b82:BFn:=bOf 82
theorem c82:certB Tryz.prog 82=some b82:=bOf_ok (by kernel_rfl)
noncomputable def b83:BFn:=bOf 83
theorem c83:certB Tryz.prog 83=some b83:=bOf_ok (by kernel_rfl)
noncomputable def b84:BFn:=bOf 84
theorem c84:certB Tryz.prog 84=some b84:=bOf_ok (by kernel_rfl)
noncomputable def b85:BFn:=bOf 85
theorem c85:certB Tryz.prog 85=some b85:=bOf_ok (by kernel_rfl)
noncomputable def b86:BFn:=bOf 86
theorem c86:certB Tryz.prog 86=some b86:=bOf_ok (by kernel_rfl)
noncomputable def b87:BFn:=bOf 87
theorem c87:certB Tryz.prog 87=some b87:=bOf_ok (by kernel_rfl)
theorem c88:certB Tryz.prog 88=some b88:=by kernel_rfl
noncomputable def b89:BFn:=bOf 89
theorem c89:certB Tryz.prog 89=some b89:=bOf_ok (by kernel_rfl)
theorem c90:certB Tryz.prog 90=some b90:=by kernel_rfl
theorem c92:certB Tryz.prog 92=some b92:=by kernel_rfl
theorem c93:certB Tryz.prog 93=some b93:=by kernel_rfl
theorem c94:certB Tryz.prog 94=some b94:=by kernel_rfl
theorem c95:certB Tryz.prog 95=some b95:=by kernel_rfl
theorem c96:certB Tryz.prog 96=some b96:=by kernel_rfl
theorem c97:certB Tryz.prog 97=some b97:=by kernel_rfl
theorem c98:certB Tryz.prog 98=some b98:=by kernel_rfl
theorem c99:certB Tryz.prog 99=some b99:=by kernel_rfl
theorem c100:certB Tryz.prog 100=some b100:=by kernel_rfl
theorem c101:certB Tryz.prog 101=some b101:=by kernel_rfl
theorem c103:certB Tryz.prog 103=some b103:=by kernel_rfl
theorem c105:certB Tryz.prog 105=some b105:=by kernel_rfl
theorem c106:certB Tryz.prog 106=some b106:=by kernel_rfl
theorem c112:certB Tryz.prog 112=some b112:=by kernel_rfl
noncomputable def b113:BFn:=bOf 113
theorem c113:certB Tryz.prog 113=some b113:=bOf_ok (by kernel_rfl)
noncomputable def b114:BFn:=bOf 114
theorem c114:certB Tryz.prog 114=some b114:=bOf_ok (by kernel_rfl)
noncomputable def b115:BFn:=bOf 115
theorem c115:certB Tryz.prog 115=some b115:=bOf_ok (by kernel_rfl)
noncomputable def b117:BFn:=bOf 117
theorem c117:certB Tryz.prog 117=some b117:=bOf_ok (by kernel_rfl)
noncomputable def b118:BFn:=bOf 118
theorem c118:certB Tryz.prog 118=some b118:=bOf_ok (by kernel_rfl)
noncomputable def b119:BFn:=bOf 119
theorem c119:certB Tryz.prog 119=some b119:=bOf_ok (by kernel_rfl)
noncomputable def b120:BFn:=bOf 120
theorem c120:certB Tryz.prog 120=some b120:=bOf_ok (by kernel_rfl)
noncomputable def b121:BFn:=bOf 121
theorem c121:certB Tryz.prog 121=some b121:=bOf_ok (by kernel_rfl)
theorem c122:certB Tryz.prog 122=some b122:=by kernel_rfl
noncomputable def b137:BFn:=bOf 137
theorem c137:certB Tryz.prog 137=some b137:=bOf_ok (by kernel_rfl)
noncomputable def b138:BFn:=bOf 138
theorem c138:certB Tryz.prog 138=some b138:=bOf_ok (by kernel_rfl)
noncomputable def b141:BFn:=bOf 141
theorem c141:certB Tryz.prog 141=some b141:=bOf_ok (by kernel_rfl)
noncomputable def b143:BFn:=bOf 143
theorem c143:certB Tryz.prog 143=some b143:=bOf_ok (by kernel_rfl)
noncomputable def b144:BFn:=bOf 144
theorem c144:certB Tryz.prog 144=some b144:=bOf_ok (by kernel_rfl)
noncomputable def b145:BFn:=bOf 145
theorem c145:certB Tryz.prog 145=some b145:=bOf_ok (by kernel_rfl)
noncomputable def b146:BFn:=bOf 146
theorem c146:certB Tryz.prog 146=some b146:=bOf_ok (by kernel_rfl)
noncomputable def b162:BFn:=bOf 162
theorem c162:certB Tryz.prog 162=some b162:=bOf_ok (by kernel_rfl)
noncomputable def b171:BFn:=bOf 171
theorem c171:certB Tryz.prog 171=some b171:=bOf_ok (by kernel_rfl)
end Go.Abs.Tz
