/- Part of the proof that the law CustomStepsAsSpecified returns true for every input. Conditions: none. -/
import Derived.Test.YtghfbggphgpjgaaGreatDoorPartE
import Derived.Test.YtghfbggphgpjgaaGreatDoorProg
import Derived.KernelRfl
namespace Go.Abs
open Go
noncomputable def qj(P:Program)(f:FuncId):Option BFn:=(P.funcs[f]?).bind fun fn=>if fn.name == "runtime.NumGoroutine" then none else cFn P fn
end Go.Abs
namespace Go.Abs.Tz
open Go Go.Abs Go.Proofs
noncomputable def bOf(f:FuncId):BFn:=(qj Tryz.prog f).getD ⟨.skip,0,[]⟩
theorem zC{f:FuncId}(h:(qj Tryz.prog f).isSome=true):qj Tryz.prog f=some (bOf f):=by
 unfold bOf
 cases hc:qj Tryz.prog f with
 |none=>rw[hc]at h;cases h
 |some x=>rfl
attribute [irreducible] bOf
theorem c2:qj Tryz.prog 2=some b2:=by kernel_rfl
theorem c3:qj Tryz.prog 3=some b3:=by kernel_rfl
theorem c4:qj Tryz.prog 4=some b4:=by kernel_rfl
theorem c5:qj Tryz.prog 5=some b5:=by kernel_rfl
theorem c6:qj Tryz.prog 6=some b6:=by kernel_rfl
theorem c7:qj Tryz.prog 7=some b7:=by kernel_rfl
theorem c8:qj Tryz.prog 8=some b8:=by kernel_rfl
theorem c9:qj Tryz.prog 9=some b9:=by kernel_rfl
theorem c10:qj Tryz.prog 10=some b10:=by kernel_rfl
theorem c11:qj Tryz.prog 11=some b11:=by kernel_rfl
theorem c12:qj Tryz.prog 12=some b12:=by kernel_rfl
theorem c13:qj Tryz.prog 13=some b13:=by kernel_rfl
theorem c14:qj Tryz.prog 14=some b14:=by kernel_rfl
theorem c15:qj Tryz.prog 15=some b15:=by kernel_rfl
theorem c16:qj Tryz.prog 16=some b16:=by kernel_rfl
theorem c18:qj Tryz.prog 18=some b18:=by kernel_rfl
noncomputable def b20:BFn:=bOf 20
theorem c20:qj Tryz.prog 20=some b20:=zC (by kernel_rfl)
noncomputable def b21:BFn:=bOf 21
theorem c21:qj Tryz.prog 21=some b21:=zC (by kernel_rfl)
noncomputable def b22:BFn:=bOf 22
theorem c22:qj Tryz.prog 22=some b22:=zC (by kernel_rfl)
noncomputable def b23:BFn:=bOf 23
theorem c23:qj Tryz.prog 23=some b23:=zC (by kernel_rfl)
noncomputable def b24:BFn:=bOf 24
theorem c24:qj Tryz.prog 24=some b24:=zC (by kernel_rfl)
noncomputable def b25:BFn:=bOf 25
theorem c25:qj Tryz.prog 25=some b25:=zC (by kernel_rfl)
noncomputable def b26:BFn:=bOf 26
theorem c26:qj Tryz.prog 26=some b26:=zC (by kernel_rfl)
theorem c27:qj Tryz.prog 27=some b27:=by kernel_rfl
noncomputable def b28:BFn:=bOf 28
theorem c28:qj Tryz.prog 28=some b28:=zC (by kernel_rfl)
theorem c29:qj Tryz.prog 29=some b29:=by kernel_rfl
theorem c30:qj Tryz.prog 30=some b30:=by kernel_rfl
theorem c31:qj Tryz.prog 31=some b31:=by kernel_rfl
theorem c32:qj Tryz.prog 32=some b32:=by kernel_rfl
theorem c33:qj Tryz.prog 33=some b33:=by kernel_rfl
theorem c34:qj Tryz.prog 34=some b34:=by kernel_rfl
theorem c35:qj Tryz.prog 35=some b35:=by kernel_rfl
theorem c36:qj Tryz.prog 36=some b36:=by kernel_rfl
theorem c37:qj Tryz.prog 37=some b37:=by kernel_rfl
theorem c38:qj Tryz.prog 38=some b38:=by kernel_rfl
theorem c39:qj Tryz.prog 39=some b39:=by kernel_rfl
theorem c40:qj Tryz.prog 40=some b40:=by kernel_rfl
theorem c41:qj Tryz.prog 41=some b41:=by kernel_rfl
theorem c42:qj Tryz.prog 42=some b42:=by kernel_rfl
theorem c43:qj Tryz.prog 43=some b43:=by kernel_rfl
theorem c44:qj Tryz.prog 44=some b44:=by kernel_rfl
theorem c45:qj Tryz.prog 45=some b45:=by kernel_rfl
theorem c46:qj Tryz.prog 46=some b46:=by kernel_rfl
theorem c47:qj Tryz.prog 47=some b47:=by kernel_rfl
theorem c48:qj Tryz.prog 48=some b48:=by kernel_rfl
theorem c49:qj Tryz.prog 49=some b49:=by kernel_rfl
theorem c50:qj Tryz.prog 50=some b50:=by kernel_rfl
noncomputable def b51:BFn:=bOf 51
theorem c51:qj Tryz.prog 51=some b51:=zC (by kernel_rfl)
theorem c52:qj Tryz.prog 52=some b52:=by kernel_rfl
theorem c53:qj Tryz.prog 53=some b53:=by kernel_rfl
theorem c54:qj Tryz.prog 54=some b54:=by kernel_rfl
theorem c55:qj Tryz.prog 55=some b55:=by kernel_rfl
theorem c56:qj Tryz.prog 56=some b56:=by kernel_rfl
theorem c57:qj Tryz.prog 57=some b57:=by kernel_rfl
noncomputable def b58:BFn:=bOf 58
theorem c58:qj Tryz.prog 58=some b58:=zC (by kernel_rfl)
noncomputable def b59:BFn:=bOf 59
theorem c59:qj Tryz.prog 59=some b59:=zC (by kernel_rfl)
theorem c60:qj Tryz.prog 60=some b60:=by kernel_rfl
noncomputable def b61:BFn:=bOf 61
theorem c61:qj Tryz.prog 61=some b61:=zC (by kernel_rfl)
noncomputable def b62:BFn:=bOf 62
theorem c62:qj Tryz.prog 62=some b62:=zC (by kernel_rfl)
noncomputable def b63:BFn:=bOf 63
theorem c63:qj Tryz.prog 63=some b63:=zC (by kernel_rfl)
noncomputable def b64:BFn:=bOf 64
theorem c64:qj Tryz.prog 64=some b64:=zC (by kernel_rfl)
noncomputable def b65:BFn:=bOf 65
theorem c65:qj Tryz.prog 65=some b65:=zC (by kernel_rfl)
theorem c66:qj Tryz.prog 66=some b66:=by kernel_rfl
theorem c67:qj Tryz.prog 67=some b67:=by kernel_rfl
theorem c68:qj Tryz.prog 68=some b68:=by kernel_rfl
theorem c69:qj Tryz.prog 69=some b69:=by kernel_rfl
theorem c70:qj Tryz.prog 70=some b70:=by kernel_rfl
theorem c71:qj Tryz.prog 71=some b71:=by kernel_rfl
theorem c72:qj Tryz.prog 72=some b72:=by kernel_rfl
theorem c73:qj Tryz.prog 73=some b73:=by kernel_rfl
theorem c74:qj Tryz.prog 74=some b74:=by kernel_rfl
theorem c75:qj Tryz.prog 75=some b75:=by kernel_rfl
theorem c76:qj Tryz.prog 76=some b76:=by kernel_rfl
theorem c77:qj Tryz.prog 77=some b77:=by kernel_rfl
theorem c78:qj Tryz.prog 78=some b78:=by kernel_rfl
theorem c79:qj Tryz.prog 79=some b79:=by kernel_rfl
theorem c80:qj Tryz.prog 80=some b80:=by kernel_rfl
theorem c81:qj Tryz.prog 81=some b81:=by kernel_rfl
theorem c82:qj Tryz.prog 82=some b82:=by kernel_rfl
theorem c83:qj Tryz.prog 83=some b83:=by kernel_rfl
theorem c84:qj Tryz.prog 84=some b84:=by kernel_rfl
theorem c85:qj Tryz.prog 85=some b85:=by kernel_rfl
theorem c86:qj Tryz.prog 86=some b86:=by kernel_rfl
theorem c87:qj Tryz.prog 87=some b87:=by kernel_rfl
theorem c88:qj Tryz.prog 88=some b88:=by kernel_rfl
theorem c89:qj Tryz.prog 89=some b89:=by kernel_rfl
theorem c90:qj Tryz.prog 90=some b90:=by kernel_rfl
theorem c92:qj Tryz.prog 92=some b92:=by kernel_rfl
theorem c93:qj Tryz.prog 93=some b93:=by kernel_rfl
theorem c94:qj Tryz.prog 94=some b94:=by kernel_rfl
noncomputable def b96:BFn:=bOf 96
theorem c96:qj Tryz.prog 96=some b96:=zC (by kernel_rfl)
theorem c97:qj Tryz.prog 97=some b97:=by kernel_rfl
theorem c98:qj Tryz.prog 98=some b98:=by kernel_rfl
noncomputable def b99:BFn:=bOf 99
theorem c99:qj Tryz.prog 99=some b99:=zC (by kernel_rfl)
theorem c100:qj Tryz.prog 100=some b100:=by kernel_rfl
noncomputable def b101:BFn:=bOf 101
theorem c101:qj Tryz.prog 101=some b101:=zC (by kernel_rfl)
noncomputable def b102:BFn:=bOf 102
theorem c102:qj Tryz.prog 102=some b102:=zC (by kernel_rfl)
noncomputable def b103:BFn:=bOf 103
theorem c103:qj Tryz.prog 103=some b103:=zC (by kernel_rfl)
noncomputable def b104:BFn:=bOf 104
theorem c104:qj Tryz.prog 104=some b104:=zC (by kernel_rfl)
theorem c105:qj Tryz.prog 105=some qgM:=by kernel_rfl
noncomputable def b107:BFn:=bOf 107
theorem c107:qj Tryz.prog 107=some b107:=zC (by kernel_rfl)
theorem c108:qj Tryz.prog 108=some w8:=by kernel_rfl
theorem c109:qj Tryz.prog 109=some b109:=by kernel_rfl
theorem c111:qj Tryz.prog 111=some b111:=by kernel_rfl
theorem c112:qj Tryz.prog 112=some qdi:=by kernel_rfl
theorem c113:qj Tryz.prog 113=some qcG:=by kernel_rfl
theorem c114:qj Tryz.prog 114=some b114:=by kernel_rfl
theorem c115:qj Tryz.prog 115=some b115:=by kernel_rfl
theorem c116:qj Tryz.prog 116=some qbo:=by kernel_rfl
theorem c117:qj Tryz.prog 117=some qgL:=by kernel_rfl
theorem c118:qj Tryz.prog 118=some b118:=by kernel_rfl
theorem c119:qj Tryz.prog 119=some b119:=by kernel_rfl
theorem c120:qj Tryz.prog 120=some b120:=by kernel_rfl
theorem c121:qj Tryz.prog 121=some qgK:=by kernel_rfl
theorem c122:qj Tryz.prog 122=some b122:=by kernel_rfl
theorem c123:qj Tryz.prog 123=some b123:=by kernel_rfl
theorem c124:qj Tryz.prog 124=some b124:=by kernel_rfl
theorem c125:qj Tryz.prog 125=some b125:=by kernel_rfl
theorem c126:qj Tryz.prog 126=some b126:=by kernel_rfl
theorem c127:qj Tryz.prog 127=some b127:=by kernel_rfl
noncomputable def b130:BFn:=bOf 130
theorem c130:qj Tryz.prog 130=some b130:=zC (by kernel_rfl)
noncomputable def b131:BFn:=bOf 131
theorem c131:qj Tryz.prog 131=some b131:=zC (by kernel_rfl)
noncomputable def b132:BFn:=bOf 132
theorem c132:qj Tryz.prog 132=some b132:=zC (by kernel_rfl)
noncomputable def b133:BFn:=bOf 133
theorem c133:qj Tryz.prog 133=some b133:=zC (by kernel_rfl)
noncomputable def b136:BFn:=bOf 136
theorem c136:qj Tryz.prog 136=some b136:=zC (by kernel_rfl)
noncomputable def b137:BFn:=bOf 137
theorem c137:qj Tryz.prog 137=some b137:=zC (by kernel_rfl)
noncomputable def b138:BFn:=bOf 138
theorem c138:qj Tryz.prog 138=some b138:=zC (by kernel_rfl)
noncomputable def b139:BFn:=bOf 139
theorem c139:qj Tryz.prog 139=some b139:=zC (by kernel_rfl)
theorem c141:qj Tryz.prog 141=some b141:=by kernel_rfl
theorem c151:qj Tryz.prog 151=some b151:=by kernel_rfl
theorem c152:qj Tryz.prog 152=some b152:=by kernel_rfl
theorem c153:qj Tryz.prog 153=some b153:=by kernel_rfl
noncomputable def b156:BFn:=bOf 156
theorem c156:qj Tryz.prog 156=some b156:=zC (by kernel_rfl)
noncomputable def b159:BFn:=bOf 159
theorem c159:qj Tryz.prog 159=some b159:=zC (by kernel_rfl)
noncomputable def b161:BFn:=bOf 161
theorem c161:qj Tryz.prog 161=some b161:=zC (by kernel_rfl)
noncomputable def b162:BFn:=bOf 162
theorem c162:qj Tryz.prog 162=some b162:=zC (by kernel_rfl)
noncomputable def b163:BFn:=bOf 163
theorem c163:qj Tryz.prog 163=some b163:=zC (by kernel_rfl)
theorem c172:qj Tryz.prog 172=some b172:=by kernel_rfl
theorem c173:qj Tryz.prog 173=some b173:=by kernel_rfl
theorem c174:qj Tryz.prog 174=some b174:=by kernel_rfl
noncomputable def b179:BFn:=bOf 179
theorem c179:qj Tryz.prog 179=some b179:=zC (by kernel_rfl)
noncomputable def b191:BFn:=bOf 191
theorem c191:qj Tryz.prog 191=some b191:=zC (by kernel_rfl)
end Go.Abs.Tz
