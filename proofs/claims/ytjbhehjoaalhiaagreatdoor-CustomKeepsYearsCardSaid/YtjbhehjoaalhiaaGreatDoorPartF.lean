/- Part of the proof that the law CustomKeepsYears holds. Conditions: none. -/
import Derived.Test.YtjbhehjoaalhiaaGreatDoorPartE
import Derived.Test.YtjbhehjoaalhiaaGreatDoorProg
import Derived.KernelRfl
set_option linter.unusedVariables false
set_option linter.unusedSimpArgs false
set_option linter.unusedSectionVars false
namespace Go.Abs
open Go
noncomputable def qi(P:Program)(f:FuncId):Option BFn:=(P.funcs[f]?).bind fun fn=>if fn.name == "runtime.NumGoroutine" then none else cFn P fn
end Go.Abs
namespace Go.Abs.Tz
open Go Go.Abs Go.Proofs
noncomputable def bOf(f:FuncId):BFn:=(qi Tryz.prog f).getD ⟨.skip,0,[]⟩
theorem vo{f:FuncId}(h:(qi Tryz.prog f).isSome=true):qi Tryz.prog f=some (bOf f):=by
 unfold bOf
 cases hc:qi Tryz.prog f with
 |none=>rw[hc]at h;cases h
 |some x=>rfl
attribute [irreducible] bOf
theorem c7:qi Tryz.prog 7=some b7:=by kernel_rfl
noncomputable def b9:BFn:=bOf 9
theorem c9:qi Tryz.prog 9=some b9:=vo (by kernel_rfl)
noncomputable def b11:BFn:=bOf 11
theorem c11:qi Tryz.prog 11=some b11:=vo (by kernel_rfl)
theorem c13:qi Tryz.prog 13=some b13:=by kernel_rfl
theorem c14:qi Tryz.prog 14=some b14:=by kernel_rfl
theorem c15:qi Tryz.prog 15=some b15:=by kernel_rfl
theorem c16:qi Tryz.prog 16=some b16:=by kernel_rfl
theorem c19:qi Tryz.prog 19=some b19:=by kernel_rfl
theorem c20:qi Tryz.prog 20=some b20:=by kernel_rfl
theorem c21:qi Tryz.prog 21=some b21:=by kernel_rfl
theorem c22:qi Tryz.prog 22=some b22:=by kernel_rfl
theorem c24:qi Tryz.prog 24=some b24:=by kernel_rfl
theorem c26:qi Tryz.prog 26=some b26:=by kernel_rfl
theorem c28:qi Tryz.prog 28=some b28:=by kernel_rfl
theorem c29:qi Tryz.prog 29=some b29:=by kernel_rfl
theorem c31:qi Tryz.prog 31=some b31:=by kernel_rfl
theorem c33:qi Tryz.prog 33=some b33:=by kernel_rfl
theorem c35:qi Tryz.prog 35=some b35:=by kernel_rfl
theorem c38:qi Tryz.prog 38=some b38:=by kernel_rfl
theorem c39:qi Tryz.prog 39=some b39:=by kernel_rfl
theorem c40:qi Tryz.prog 40=some b40:=by kernel_rfl
noncomputable def b43:BFn:=bOf 43
theorem c43:qi Tryz.prog 43=some b43:=vo (by kernel_rfl)
noncomputable def b44:BFn:=bOf 44
theorem c44:qi Tryz.prog 44=some b44:=vo (by kernel_rfl)
theorem c47:qi Tryz.prog 47=some b47:=by kernel_rfl
theorem c48:qi Tryz.prog 48=some b48:=by kernel_rfl
noncomputable def b49:BFn:=bOf 49
theorem c49:qi Tryz.prog 49=some b49:=vo (by kernel_rfl)
noncomputable def b50:BFn:=bOf 50
theorem c50:qi Tryz.prog 50=some b50:=vo (by kernel_rfl)
noncomputable def b54:BFn:=bOf 54
theorem c54:qi Tryz.prog 54=some b54:=vo (by kernel_rfl)
noncomputable def b55:BFn:=bOf 55
theorem c55:qi Tryz.prog 55=some b55:=vo (by kernel_rfl)
theorem c58:qi Tryz.prog 58=some b58:=by kernel_rfl
theorem c59:qi Tryz.prog 59=some b59:=by kernel_rfl
theorem c60:qi Tryz.prog 60=some b60:=by kernel_rfl
theorem c62:qi Tryz.prog 62=some b62:=by kernel_rfl
theorem c65:qi Tryz.prog 65=some b65:=by kernel_rfl
theorem c66:qi Tryz.prog 66=some b66:=by kernel_rfl
theorem c67:qi Tryz.prog 67=some b67:=by kernel_rfl
theorem c68:qi Tryz.prog 68=some b68:=by kernel_rfl
theorem c69:qi Tryz.prog 69=some b69:=by kernel_rfl
theorem c70:qi Tryz.prog 70=some b70:=by kernel_rfl
theorem c77:qi Tryz.prog 77=some b77:=by kernel_rfl
theorem c78:qi Tryz.prog 78=some b78:=by kernel_rfl
theorem c79:qi Tryz.prog 79=some b79:=by kernel_rfl
theorem c80:qi Tryz.prog 80=some b80:=by kernel_rfl
theorem c83:qi Tryz.prog 83=some b83:=by kernel_rfl
theorem c84:qi Tryz.prog 84=some b84:=by kernel_rfl
theorem c85:qi Tryz.prog 85=some b85:=by kernel_rfl
theorem c90:qi Tryz.prog 90=some b90:=by kernel_rfl
theorem c91:qi Tryz.prog 91=some b91:=by kernel_rfl
theorem c92:qi Tryz.prog 92=some b92:=by kernel_rfl
theorem c93:qi Tryz.prog 93=some b93:=by kernel_rfl
theorem c94:qi Tryz.prog 94=some b94:=by kernel_rfl
theorem c95:qi Tryz.prog 95=some b95:=by kernel_rfl
theorem c96:qi Tryz.prog 96=some b96:=by kernel_rfl
theorem c97:qi Tryz.prog 97=some b97:=by kernel_rfl
theorem c99:qi Tryz.prog 99=some b99:=by kernel_rfl
theorem c100:qi Tryz.prog 100=some b100:=by kernel_rfl
theorem c103:qi Tryz.prog 103=some b103:=by kernel_rfl
theorem c104:qi Tryz.prog 104=some b104:=by kernel_rfl
theorem c105:qi Tryz.prog 105=some b105:=by kernel_rfl
noncomputable def b106:BFn:=bOf 106
theorem c106:qi Tryz.prog 106=some b106:=vo (by kernel_rfl)
theorem c107:qi Tryz.prog 107=some b107:=by kernel_rfl
noncomputable def b108:BFn:=bOf 108
theorem c108:qi Tryz.prog 108=some b108:=vo (by kernel_rfl)
noncomputable def b109:BFn:=bOf 109
theorem c109:qi Tryz.prog 109=some b109:=vo (by kernel_rfl)
noncomputable def b110:BFn:=bOf 110
theorem c110:qi Tryz.prog 110=some b110:=vo (by kernel_rfl)
noncomputable def b121:BFn:=bOf 121
theorem c121:qi Tryz.prog 121=some b121:=vo (by kernel_rfl)
noncomputable def b122:BFn:=bOf 122
theorem c122:qi Tryz.prog 122=some b122:=vo (by kernel_rfl)
theorem c124:qi Tryz.prog 124=some b124:=by kernel_rfl
theorem c125:qi Tryz.prog 125=some b125:=by kernel_rfl
theorem c126:qi Tryz.prog 126=some b126:=by kernel_rfl
theorem c128:qi Tryz.prog 128=some b128:=by kernel_rfl
theorem c130:qi Tryz.prog 130=some b130:=by kernel_rfl
theorem c131:qi Tryz.prog 131=some b131:=by kernel_rfl
theorem c132:qi Tryz.prog 132=some qcC:=by kernel_rfl
theorem c133:qi Tryz.prog 133=some b133:=by kernel_rfl
theorem c134:qi Tryz.prog 134=some b134:=by kernel_rfl
theorem c135:qi Tryz.prog 135=some b135:=by kernel_rfl
theorem c140:qi Tryz.prog 140=some b140:=by kernel_rfl
theorem c141:qi Tryz.prog 141=some b141:=by kernel_rfl
theorem c142:qi Tryz.prog 142=some b142:=by kernel_rfl
theorem c146:qi Tryz.prog 146=some b146:=by kernel_rfl
theorem c147:qi Tryz.prog 147=some b147:=by kernel_rfl
theorem c151:qi Tryz.prog 151=some b151:=by kernel_rfl
theorem c152:qi Tryz.prog 152=some b152:=by kernel_rfl
theorem c153:qi Tryz.prog 153=some qdp:=by kernel_rfl
theorem c154:qi Tryz.prog 154=some b154:=by kernel_rfl
theorem c155:qi Tryz.prog 155=some b155:=by kernel_rfl
theorem c156:qi Tryz.prog 156=some b156:=by kernel_rfl
theorem c157:qi Tryz.prog 157=some b157:=by kernel_rfl
theorem c158:qi Tryz.prog 158=some b158:=by kernel_rfl
theorem c159:qi Tryz.prog 159=some b159:=by kernel_rfl
theorem c162:qi Tryz.prog 162=some b162:=by kernel_rfl
theorem c163:qi Tryz.prog 163=some b163:=by kernel_rfl
noncomputable def b164:BFn:=bOf 164
theorem c164:qi Tryz.prog 164=some b164:=vo (by kernel_rfl)
theorem c165:qi Tryz.prog 165=some b165:=by kernel_rfl
noncomputable def b166:BFn:=bOf 166
theorem c166:qi Tryz.prog 166=some b166:=vo (by kernel_rfl)
theorem c167:qi Tryz.prog 167=some b167:=by kernel_rfl
noncomputable def b168:BFn:=bOf 168
theorem c168:qi Tryz.prog 168=some b168:=vo (by kernel_rfl)
theorem c169:qi Tryz.prog 169=some b169:=by kernel_rfl
theorem c170:qi Tryz.prog 170=some b170:=by kernel_rfl
noncomputable def b173:BFn:=bOf 173
theorem c173:qi Tryz.prog 173=some b173:=vo (by kernel_rfl)
noncomputable def b174:BFn:=bOf 174
theorem c174:qi Tryz.prog 174=some b174:=vo (by kernel_rfl)
theorem c180:qi Tryz.prog 180=some b180:=by kernel_rfl
theorem c181:qi Tryz.prog 181=some b181:=by kernel_rfl
theorem c182:qi Tryz.prog 182=some b182:=by kernel_rfl
theorem c183:qi Tryz.prog 183=some b183:=by kernel_rfl
theorem c187:qi Tryz.prog 187=some b187:=by kernel_rfl
theorem c190:qi Tryz.prog 190=some b190:=by kernel_rfl
theorem c192:qi Tryz.prog 192=some qaY:=by kernel_rfl
theorem c193:qi Tryz.prog 193=some b193:=by kernel_rfl
theorem c195:qi Tryz.prog 195=some b195:=by kernel_rfl
theorem c211:qi Tryz.prog 211=some b211:=by kernel_rfl
theorem c214:qi Tryz.prog 214=some b214:=by kernel_rfl
theorem c224:qi Tryz.prog 224=some b224:=by kernel_rfl
end Go.Abs.Tz
