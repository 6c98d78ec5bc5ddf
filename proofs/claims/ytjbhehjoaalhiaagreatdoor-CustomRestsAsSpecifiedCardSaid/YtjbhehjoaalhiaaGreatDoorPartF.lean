/- Part of the proof that the law CustomRestsAsSpecified holds. Conditions: none. -/
import Derived.Test.YtjbhehjoaalhiaaGreatDoorPartE
import Derived.Test.YtjbhehjoaalhiaaGreatDoorProg
import Derived.KernelRfl
set_option linter.unusedVariables false
set_option linter.unusedSimpArgs false
set_option linter.unusedSectionVars false
namespace Go.Abs
open Go
noncomputable def qj(P:Program)(f:FuncId):Option BFn:=(P.funcs[f]?).bind fun fn=>if fn.name == "runtime.NumGoroutine" then none else cFn P fn
end Go.Abs
namespace Go.Abs.Tz
open Go Go.Abs Go.Proofs
noncomputable def bOf(f:FuncId):BFn:=(qj Tryz.prog f).getD ⟨.skip,0,[]⟩
theorem vQ{f:FuncId}(h:(qj Tryz.prog f).isSome=true):qj Tryz.prog f=some (bOf f):=by
 unfold bOf
 cases hc:qj Tryz.prog f with
 |none=>rw[hc]at h;cases h
 |some x=>rfl
attribute [irreducible] bOf
theorem c5:qj Tryz.prog 5=some b5:=by kernel_rfl
noncomputable def b9:BFn:=bOf 9
theorem c9:qj Tryz.prog 9=some b9:=vQ (by kernel_rfl)
noncomputable def b11:BFn:=bOf 11
theorem c11:qj Tryz.prog 11=some b11:=vQ (by kernel_rfl)
theorem c14:qj Tryz.prog 14=some b14:=by kernel_rfl
theorem c15:qj Tryz.prog 15=some b15:=by kernel_rfl
theorem c16:qj Tryz.prog 16=some b16:=by kernel_rfl
theorem c19:qj Tryz.prog 19=some b19:=by kernel_rfl
theorem c20:qj Tryz.prog 20=some b20:=by kernel_rfl
theorem c21:qj Tryz.prog 21=some b21:=by kernel_rfl
theorem c22:qj Tryz.prog 22=some b22:=by kernel_rfl
theorem c23:qj Tryz.prog 23=some b23:=by kernel_rfl
theorem c24:qj Tryz.prog 24=some b24:=by kernel_rfl
theorem c25:qj Tryz.prog 25=some b25:=by kernel_rfl
theorem c26:qj Tryz.prog 26=some b26:=by kernel_rfl
theorem c27:qj Tryz.prog 27=some b27:=by kernel_rfl
theorem c28:qj Tryz.prog 28=some b28:=by kernel_rfl
theorem c29:qj Tryz.prog 29=some b29:=by kernel_rfl
theorem c30:qj Tryz.prog 30=some b30:=by kernel_rfl
theorem c35:qj Tryz.prog 35=some b35:=by kernel_rfl
theorem c38:qj Tryz.prog 38=some b38:=by kernel_rfl
noncomputable def b43:BFn:=bOf 43
theorem c43:qj Tryz.prog 43=some b43:=vQ (by kernel_rfl)
noncomputable def b44:BFn:=bOf 44
theorem c44:qj Tryz.prog 44=some b44:=vQ (by kernel_rfl)
theorem c47:qj Tryz.prog 47=some b47:=by kernel_rfl
theorem c48:qj Tryz.prog 48=some b48:=by kernel_rfl
noncomputable def b49:BFn:=bOf 49
theorem c49:qj Tryz.prog 49=some b49:=vQ (by kernel_rfl)
noncomputable def b50:BFn:=bOf 50
theorem c50:qj Tryz.prog 50=some b50:=vQ (by kernel_rfl)
noncomputable def b54:BFn:=bOf 54
theorem c54:qj Tryz.prog 54=some b54:=vQ (by kernel_rfl)
noncomputable def b55:BFn:=bOf 55
theorem c55:qj Tryz.prog 55=some b55:=vQ (by kernel_rfl)
theorem c59:qj Tryz.prog 59=some b59:=by kernel_rfl
theorem c60:qj Tryz.prog 60=some b60:=by kernel_rfl
theorem c62:qj Tryz.prog 62=some b62:=by kernel_rfl
theorem c65:qj Tryz.prog 65=some b65:=by kernel_rfl
theorem c66:qj Tryz.prog 66=some b66:=by kernel_rfl
theorem c67:qj Tryz.prog 67=some b67:=by kernel_rfl
theorem c68:qj Tryz.prog 68=some b68:=by kernel_rfl
theorem c69:qj Tryz.prog 69=some b69:=by kernel_rfl
theorem c70:qj Tryz.prog 70=some b70:=by kernel_rfl
theorem c71:qj Tryz.prog 71=some b71:=by kernel_rfl
theorem c72:qj Tryz.prog 72=some b72:=by kernel_rfl
theorem c73:qj Tryz.prog 73=some b73:=by kernel_rfl
theorem c74:qj Tryz.prog 74=some b74:=by kernel_rfl
theorem c75:qj Tryz.prog 75=some b75:=by kernel_rfl
theorem c76:qj Tryz.prog 76=some b76:=by kernel_rfl
theorem c77:qj Tryz.prog 77=some b77:=by kernel_rfl
theorem c78:qj Tryz.prog 78=some b78:=by kernel_rfl
theorem c79:qj Tryz.prog 79=some b79:=by kernel_rfl
theorem c80:qj Tryz.prog 80=some b80:=by kernel_rfl
theorem c81:qj Tryz.prog 81=some b81:=by kernel_rfl
theorem c82:qj Tryz.prog 82=some b82:=by kernel_rfl
theorem c83:qj Tryz.prog 83=some b83:=by kernel_rfl
theorem c84:qj Tryz.prog 84=some b84:=by kernel_rfl
theorem c85:qj Tryz.prog 85=some b85:=by kernel_rfl
theorem c86:qj Tryz.prog 86=some b86:=by kernel_rfl
theorem c87:qj Tryz.prog 87=some b87:=by kernel_rfl
theorem c88:qj Tryz.prog 88=some b88:=by kernel_rfl
theorem c89:qj Tryz.prog 89=some b89:=by kernel_rfl
theorem c94:qj Tryz.prog 94=some b94:=by kernel_rfl
theorem c95:qj Tryz.prog 95=some b95:=by kernel_rfl
theorem c96:qj Tryz.prog 96=some b96:=by kernel_rfl
theorem c97:qj Tryz.prog 97=some b97:=by kernel_rfl
theorem c99:qj Tryz.prog 99=some b99:=by kernel_rfl
theorem c100:qj Tryz.prog 100=some b100:=by kernel_rfl
theorem c103:qj Tryz.prog 103=some b103:=by kernel_rfl
theorem c104:qj Tryz.prog 104=some b104:=by kernel_rfl
theorem c105:qj Tryz.prog 105=some b105:=by kernel_rfl
noncomputable def b106:BFn:=bOf 106
theorem c106:qj Tryz.prog 106=some b106:=vQ (by kernel_rfl)
theorem c107:qj Tryz.prog 107=some b107:=by kernel_rfl
noncomputable def b108:BFn:=bOf 108
theorem c108:qj Tryz.prog 108=some b108:=vQ (by kernel_rfl)
noncomputable def b109:BFn:=bOf 109
theorem c109:qj Tryz.prog 109=some b109:=vQ (by kernel_rfl)
noncomputable def b110:BFn:=bOf 110
theorem c110:qj Tryz.prog 110=some b110:=vQ (by kernel_rfl)
theorem c111:qj Tryz.prog 111=some b111:=by kernel_rfl
theorem c112:qj Tryz.prog 112=some b112:=by kernel_rfl
theorem c114:qj Tryz.prog 114=some b114:=by kernel_rfl
noncomputable def b121:BFn:=bOf 121
theorem c121:qj Tryz.prog 121=some b121:=vQ (by kernel_rfl)
noncomputable def b122:BFn:=bOf 122
theorem c122:qj Tryz.prog 122=some b122:=vQ (by kernel_rfl)
theorem c124:qj Tryz.prog 124=some b124:=by kernel_rfl
theorem c125:qj Tryz.prog 125=some b125:=by kernel_rfl
theorem c126:qj Tryz.prog 126=some b126:=by kernel_rfl
theorem c128:qj Tryz.prog 128=some b128:=by kernel_rfl
theorem c130:qj Tryz.prog 130=some b130:=by kernel_rfl
theorem c131:qj Tryz.prog 131=some b131:=by kernel_rfl
theorem c132:qj Tryz.prog 132=some qcR:=by kernel_rfl
theorem c133:qj Tryz.prog 133=some b133:=by kernel_rfl
theorem c134:qj Tryz.prog 134=some b134:=by kernel_rfl
theorem c135:qj Tryz.prog 135=some b135:=by kernel_rfl
theorem c136:qj Tryz.prog 136=some qfN:=by kernel_rfl
theorem c137:qj Tryz.prog 137=some qcQ:=by kernel_rfl
theorem c138:qj Tryz.prog 138=some qcn:=by kernel_rfl
theorem c139:qj Tryz.prog 139=some b139:=by kernel_rfl
theorem c140:qj Tryz.prog 140=some b140:=by kernel_rfl
theorem c141:qj Tryz.prog 141=some b141:=by kernel_rfl
theorem c142:qj Tryz.prog 142=some b142:=by kernel_rfl
theorem c143:qj Tryz.prog 143=some b143:=by kernel_rfl
theorem c144:qj Tryz.prog 144=some b144:=by kernel_rfl
theorem c145:qj Tryz.prog 145=some b145:=by kernel_rfl
theorem c146:qj Tryz.prog 146=some b146:=by kernel_rfl
theorem c147:qj Tryz.prog 147=some b147:=by kernel_rfl
theorem c148:qj Tryz.prog 148=some b148:=by kernel_rfl
theorem c149:qj Tryz.prog 149=some b149:=by kernel_rfl
theorem c150:qj Tryz.prog 150=some qaX:=by kernel_rfl
theorem c152:qj Tryz.prog 152=some b152:=by kernel_rfl
theorem c153:qj Tryz.prog 153=some qdD:=by kernel_rfl
theorem c154:qj Tryz.prog 154=some b154:=by kernel_rfl
theorem c155:qj Tryz.prog 155=some b155:=by kernel_rfl
theorem c156:qj Tryz.prog 156=some b156:=by kernel_rfl
theorem c157:qj Tryz.prog 157=some b157:=by kernel_rfl
theorem c158:qj Tryz.prog 158=some b158:=by kernel_rfl
theorem c159:qj Tryz.prog 159=some b159:=by kernel_rfl
theorem c162:qj Tryz.prog 162=some b162:=by kernel_rfl
theorem c163:qj Tryz.prog 163=some b163:=by kernel_rfl
noncomputable def b164:BFn:=bOf 164
theorem c164:qj Tryz.prog 164=some b164:=vQ (by kernel_rfl)
theorem c165:qj Tryz.prog 165=some b165:=by kernel_rfl
noncomputable def b166:BFn:=bOf 166
theorem c166:qj Tryz.prog 166=some b166:=vQ (by kernel_rfl)
theorem c167:qj Tryz.prog 167=some b167:=by kernel_rfl
noncomputable def b168:BFn:=bOf 168
theorem c168:qj Tryz.prog 168=some b168:=vQ (by kernel_rfl)
theorem c169:qj Tryz.prog 169=some b169:=by kernel_rfl
theorem c170:qj Tryz.prog 170=some b170:=by kernel_rfl
noncomputable def b173:BFn:=bOf 173
theorem c173:qj Tryz.prog 173=some b173:=vQ (by kernel_rfl)
noncomputable def b174:BFn:=bOf 174
theorem c174:qj Tryz.prog 174=some b174:=vQ (by kernel_rfl)
theorem c180:qj Tryz.prog 180=some b180:=by kernel_rfl
theorem c181:qj Tryz.prog 181=some b181:=by kernel_rfl
theorem c182:qj Tryz.prog 182=some b182:=by kernel_rfl
theorem c183:qj Tryz.prog 183=some b183:=by kernel_rfl
theorem c184:qj Tryz.prog 184=some b184:=by kernel_rfl
theorem c185:qj Tryz.prog 185=some b185:=by kernel_rfl
theorem c186:qj Tryz.prog 186=some b186:=by kernel_rfl
theorem c187:qj Tryz.prog 187=some b187:=by kernel_rfl
theorem c188:qj Tryz.prog 188=some b188:=by kernel_rfl
theorem c189:qj Tryz.prog 189=some b189:=by kernel_rfl
theorem c192:qj Tryz.prog 192=some qbs:=by kernel_rfl
theorem c193:qj Tryz.prog 193=some b193:=by kernel_rfl
theorem c195:qj Tryz.prog 195=some b195:=by kernel_rfl
theorem c211:qj Tryz.prog 211=some b211:=by kernel_rfl
theorem c212:qj Tryz.prog 212=some b212:=by kernel_rfl
theorem c213:qj Tryz.prog 213=some b213:=by kernel_rfl
theorem c214:qj Tryz.prog 214=some b214:=by kernel_rfl
theorem c224:qj Tryz.prog 224=some b224:=by kernel_rfl
end Go.Abs.Tz
