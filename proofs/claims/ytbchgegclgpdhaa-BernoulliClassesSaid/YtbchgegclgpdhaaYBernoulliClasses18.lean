/- Chapter 31: the closed values. -/
import Derived.Test.YtbchgegclgpdhaaYBernoulliClasses17
import Derived.Test.YtbchgegclgpdhaaYBernoulliClasses16
import Derived.Test.YtbchgegclgpdhaaYBernoulliClasses15
namespace Go.Proofs.Ytbchgegclgpdhaa.V
open Go Go.Proofs.Ytbchgegclgpdhaa.E
theorem awake_ok : quadformlaw31_awake = some true := c_quadformlaw31_awake.le 300 true (by kernel_rfl)
end Go.Proofs.Ytbchgegclgpdhaa.V
/- Characters of small discriminants: tables, and what the tables say. -/
namespace Go.Proofs.Ytbchgegclgpdhaa.V
open Go Go.Proofs.Ytbchgegclgpdhaa.E Go.Proofs.Ytbchgegclgpdhaa.LI Go.Proofs.Ytbchgegclgpdhaa.Num
set_option linter.unusedVariables false
set_option linter.unusedSimpArgs false
set_option maxRecDepth 10000
def ftab0 : List (List Nat) := [[], [2], [3], [2, 2], [5], [2, 3], [7], [2, 2, 2], [3, 3], [2, 5], [11], [2, 2, 3], [13], [2, 7], [3, 5], [2, 2, 2, 2], [17], [2, 3, 3], [19], [2, 2, 5], [3, 7], [2, 11], [23], [2, 2, 2, 3], [5, 5], [2, 13], [3, 3, 3], [2, 2, 7], [29], [2, 3, 5], [31], [2, 2, 2, 2, 2], [3, 11], [2, 17], [5, 7], [2, 2, 3, 3], [37], [2, 19], [3, 13], [2, 2, 2, 5], [41], [2, 3, 7], [43], [2, 2, 11], [3, 3, 5], [2, 23], [47], [2, 2, 2, 2, 3], [7, 7], [2, 5, 5], [3, 17], [2, 2, 13], [53], [2, 3, 3, 3], [5, 11], [2, 2, 2, 7], [3, 19], [2, 29], [59], [2, 2, 3, 5], [61], [2, 31], [3, 3, 7], [2, 2, 2, 2, 2, 2], [5, 13], [2, 3, 11], [67], [2, 2, 17], [3, 23], [2, 5, 7], [71], [2, 2, 2, 3, 3], [73], [2, 37], [3, 5, 5], [2, 2, 19], [7, 11], [2, 3, 13], [79], [2, 2, 2, 2, 5], [3, 3, 3, 3], [2, 41], [83], [2, 2, 3, 7], [5, 17], [2, 43], [3, 29], [2, 2, 2, 11], [89], [2, 3, 3, 5], [7, 13], [2, 2, 23], [3, 31], [2, 47], [5, 19], [2, 2, 2, 2, 2, 3], [97], [2, 7, 7], [3, 3, 11], [2, 2, 5, 5]]
def ftab1 : List (List Nat) := [[101], [2, 3, 17], [103], [2, 2, 2, 13], [3, 5, 7], [2, 53], [107], [2, 2, 3, 3, 3], [109], [2, 5, 11], [3, 37], [2, 2, 2, 2, 7], [113], [2, 3, 19], [5, 23], [2, 2, 29], [3, 3, 13], [2, 59], [7, 17], [2, 2, 2, 3, 5], [11, 11], [2, 61], [3, 41], [2, 2, 31], [5, 5, 5], [2, 3, 3, 7], [127], [2, 2, 2, 2, 2, 2, 2], [3, 43], [2, 5, 13], [131], [2, 2, 3, 11], [7, 19], [2, 67], [3, 3, 3, 5], [2, 2, 2, 17], [137], [2, 3, 23], [139], [2, 2, 5, 7], [3, 47], [2, 71], [11, 13], [2, 2, 2, 2, 3, 3], [5, 29], [2, 73], [3, 7, 7], [2, 2, 37], [149], [2, 3, 5, 5], [151], [2, 2, 2, 19], [3, 3, 17], [2, 7, 11], [5, 31], [2, 2, 3, 13], [157], [2, 79], [3, 53], [2, 2, 2, 2, 2, 5], [7, 23], [2, 3, 3, 3, 3], [163], [2, 2, 41], [3, 5, 11], [2, 83], [167], [2, 2, 2, 3, 7], [13, 13], [2, 5, 17], [3, 3, 19], [2, 2, 43], [173], [2, 3, 29], [5, 5, 7], [2, 2, 2, 2, 11], [3, 59], [2, 89], [179], [2, 2, 3, 3, 5], [181], [2, 7, 13], [3, 61], [2, 2, 2, 23], [5, 37], [2, 3, 31], [11, 17], [2, 2, 47], [3, 3, 3, 7], [2, 5, 19], [191], [2, 2, 2, 2, 2, 2, 3], [193], [2, 97], [3, 5, 13], [2, 2, 7, 7], [197], [2, 3, 3, 11], [199], [2, 2, 2, 5, 5]]
def ftab2 : List (List Nat) := [[3, 67], [2, 101], [7, 29], [2, 2, 3, 17], [5, 41], [2, 103], [3, 3, 23], [2, 2, 2, 2, 13], [11, 19], [2, 3, 5, 7], [211], [2, 2, 53], [3, 71], [2, 107], [5, 43], [2, 2, 2, 3, 3, 3], [7, 31], [2, 109], [3, 73], [2, 2, 5, 11], [13, 17], [2, 3, 37], [223], [2, 2, 2, 2, 2, 7], [3, 3, 5, 5], [2, 113], [227], [2, 2, 3, 19], [229], [2, 5, 23], [3, 7, 11], [2, 2, 2, 29], [233], [2, 3, 3, 13], [5, 47], [2, 2, 59], [3, 79], [2, 7, 17], [239], [2, 2, 2, 2, 3, 5], [241], [2, 11, 11], [3, 3, 3, 3, 3], [2, 2, 61], [5, 7, 7], [2, 3, 41], [13, 19], [2, 2, 2, 31], [3, 83], [2, 5, 5, 5], [251], [2, 2, 3, 3, 7], [11, 23], [2, 127], [3, 5, 17], [2, 2, 2, 2, 2, 2, 2, 2], [257], [2, 3, 43], [7, 37], [2, 2, 5, 13], [3, 3, 29], [2, 131], [263], [2, 2, 2, 3, 11], [5, 53], [2, 7, 19], [3, 89], [2, 2, 67], [269], [2, 3, 3, 3, 5], [271], [2, 2, 2, 2, 17], [3, 7, 13], [2, 137], [5, 5, 11], [2, 2, 3, 23], [277], [2, 139], [3, 3, 31], [2, 2, 2, 5, 7], [281], [2, 3, 47], [283], [2, 2, 71], [3, 5, 19], [2, 11, 13], [7, 41], [2, 2, 2, 2, 2, 3, 3], [17, 17], [2, 5, 29], [3, 97], [2, 2, 73], [293], [2, 3, 7, 7], [5, 59], [2, 2, 2, 37], [3, 3, 3, 11], [2, 149], [13, 23], [2, 2, 3, 5, 5]]
def ftab3 : List (List Nat) := [[7, 43], [2, 151], [3, 101], [2, 2, 2, 2, 19], [5, 61], [2, 3, 3, 17], [307], [2, 2, 7, 11], [3, 103], [2, 5, 31], [311], [2, 2, 2, 3, 13], [313], [2, 157], [3, 3, 5, 7], [2, 2, 79], [317], [2, 3, 53], [11, 29], [2, 2, 2, 2, 2, 2, 5], [3, 107], [2, 7, 23], [17, 19], [2, 2, 3, 3, 3, 3], [5, 5, 13], [2, 163], [3, 109], [2, 2, 2, 41], [7, 47], [2, 3, 5, 11], [331], [2, 2, 83], [3, 3, 37], [2, 167], [5, 67], [2, 2, 2, 2, 3, 7], [337], [2, 13, 13], [3, 113], [2, 2, 5, 17], [11, 31], [2, 3, 3, 19], [7, 7, 7], [2, 2, 2, 43], [3, 5, 23], [2, 173], [347], [2, 2, 3, 29], [349], [2, 5, 5, 7], [3, 3, 3, 13], [2, 2, 2, 2, 2, 11], [353], [2, 3, 59], [5, 71], [2, 2, 89], [3, 7, 17], [2, 179], [359], [2, 2, 2, 3, 3, 5], [19, 19], [2, 181], [3, 11, 11], [2, 2, 7, 13], [5, 73], [2, 3, 61], [367], [2, 2, 2, 2, 23], [3, 3, 41], [2, 5, 37], [7, 53], [2, 2, 3, 31], [373], [2, 11, 17], [3, 5, 5, 5], [2, 2, 2, 47], [13, 29], [2, 3, 3, 3, 7], [379], [2, 2, 5, 19], [3, 127], [2, 191], [383], [2, 2, 2, 2, 2, 2, 2, 3], [5, 7, 11], [2, 193], [3, 3, 43], [2, 2, 97], [389], [2, 3, 5, 13], [17, 23], [2, 2, 2, 7, 7], [3, 131], [2, 197], [5, 79], [2, 2, 3, 3, 11], [397], [2, 199], [3, 7, 19], [2, 2, 2, 2, 5, 5]]
def ftab4 : List (List Nat) := [[401], [2, 3, 67], [13, 31], [2, 2, 101], [3, 3, 3, 3, 5], [2, 7, 29], [11, 37], [2, 2, 2, 3, 17], [409], [2, 5, 41], [3, 137], [2, 2, 103], [7, 59], [2, 3, 3, 23], [5, 83], [2, 2, 2, 2, 2, 13], [3, 139], [2, 11, 19], [419], [2, 2, 3, 5, 7], [421], [2, 211], [3, 3, 47], [2, 2, 2, 53], [5, 5, 17], [2, 3, 71], [7, 61], [2, 2, 107], [3, 11, 13], [2, 5, 43], [431], [2, 2, 2, 2, 3, 3, 3], [433], [2, 7, 31], [3, 5, 29], [2, 2, 109], [19, 23], [2, 3, 73], [439], [2, 2, 2, 5, 11], [3, 3, 7, 7], [2, 13, 17], [443], [2, 2, 3, 37], [5, 89], [2, 223], [3, 149], [2, 2, 2, 2, 2, 2, 7], [449], [2, 3, 3, 5, 5], [11, 41], [2, 2, 113], [3, 151], [2, 227], [5, 7, 13], [2, 2, 2, 3, 19], [457], [2, 229], [3, 3, 3, 17], [2, 2, 5, 23], [461], [2, 3, 7, 11], [463], [2, 2, 2, 2, 29], [3, 5, 31], [2, 233], [467], [2, 2, 3, 3, 13], [7, 67], [2, 5, 47], [3, 157], [2, 2, 2, 59], [11, 43], [2, 3, 79], [5, 5, 19], [2, 2, 7, 17], [3, 3, 53], [2, 239], [479], [2, 2, 2, 2, 2, 3, 5], [13, 37], [2, 241], [3, 7, 23], [2, 2, 11, 11], [5, 97], [2, 3, 3, 3, 3, 3], [487], [2, 2, 2, 61], [3, 163], [2, 5, 7, 7], [491], [2, 2, 3, 41], [17, 29], [2, 13, 19], [3, 3, 5, 11], [2, 2, 2, 2, 31], [7, 71], [2, 3, 83], [499], [2, 2, 5, 5, 5]]
def ftab5 : List (List Nat) := [[3, 167], [2, 251], [503], [2, 2, 2, 3, 3, 7], [5, 101], [2, 11, 23], [3, 13, 13], [2, 2, 127], [509], [2, 3, 5, 17], [7, 73], [2, 2, 2, 2, 2, 2, 2, 2, 2], [3, 3, 3, 19], [2, 257], [5, 103], [2, 2, 3, 43], [11, 47], [2, 7, 37], [3, 173], [2, 2, 2, 5, 13], [521], [2, 3, 3, 29], [523], [2, 2, 131], [3, 5, 5, 7], [2, 263], [17, 31], [2, 2, 2, 2, 3, 11], [23, 23], [2, 5, 53], [3, 3, 59], [2, 2, 7, 19], [13, 41], [2, 3, 89], [5, 107], [2, 2, 2, 67], [3, 179], [2, 269], [7, 7, 11], [2, 2, 3, 3, 3, 5], [541], [2, 271], [3, 181], [2, 2, 2, 2, 2, 17], [5, 109], [2, 3, 7, 13], [547], [2, 2, 137], [3, 3, 61], [2, 5, 5, 11], [19, 29], [2, 2, 2, 3, 23], [7, 79], [2, 277], [3, 5, 37], [2, 2, 139], [557], [2, 3, 3, 31], [13, 43], [2, 2, 2, 2, 5, 7], [3, 11, 17], [2, 281], [563], [2, 2, 3, 47], [5, 113], [2, 283], [3, 3, 3, 3, 7], [2, 2, 2, 71], [569], [2, 3, 5, 19], [571], [2, 2, 11, 13], [3, 191], [2, 7, 41], [5, 5, 23], [2, 2, 2, 2, 2, 2, 3, 3], [577], [2, 17, 17], [3, 193], [2, 2, 5, 29], [7, 83], [2, 3, 97], [11, 53], [2, 2, 2, 73], [3, 3, 5, 13], [2, 293], [587], [2, 2, 3, 7, 7], [19, 31], [2, 5, 59], [3, 197], [2, 2, 2, 2, 37], [593], [2, 3, 3, 3, 11], [5, 7, 17], [2, 2, 149], [3, 199], [2, 13, 23], [599], [2, 2, 2, 3, 5, 5]]
def ftab6 : List (List Nat) := [[601], [2, 7, 43], [3, 3, 67], [2, 2, 151], [5, 11, 11], [2, 3, 101], [607], [2, 2, 2, 2, 2, 19], [3, 7, 29], [2, 5, 61], [13, 47], [2, 2, 3, 3, 17], [613], [2, 307], [3, 5, 41], [2, 2, 2, 7, 11], [617], [2, 3, 103], [619], [2, 2, 5, 31], [3, 3, 3, 23], [2, 311], [7, 89], [2, 2, 2, 2, 3, 13], [5, 5, 5, 5], [2, 313], [3, 11, 19], [2, 2, 157], [17, 37], [2, 3, 3, 5, 7], [631], [2, 2, 2, 79], [3, 211], [2, 317], [5, 127], [2, 2, 3, 53], [7, 7, 13], [2, 11, 29], [3, 3, 71], [2, 2, 2, 2, 2, 2, 2, 5], [641], [2, 3, 107], [643], [2, 2, 7, 23], [3, 5, 43], [2, 17, 19], [647], [2, 2, 2, 3, 3, 3, 3], [11, 59], [2, 5, 5, 13], [3, 7, 31], [2, 2, 163], [653], [2, 3, 109], [5, 131], [2, 2, 2, 2, 41], [3, 3, 73], [2, 7, 47], [659], [2, 2, 3, 5, 11], [661], [2, 331], [3, 13, 17], [2, 2, 2, 83], [5, 7, 19], [2, 3, 3, 37], [23, 29], [2, 2, 167], [3, 223], [2, 5, 67], [11, 61], [2, 2, 2, 2, 2, 3, 7], [673], [2, 337], [3, 3, 3, 5, 5], [2, 2, 13, 13], [677], [2, 3, 113], [7, 97], [2, 2, 2, 5, 17], [3, 227], [2, 11, 31], [683], [2, 2, 3, 3, 19], [5, 137], [2, 7, 7, 7], [3, 229], [2, 2, 2, 2, 43], [13, 53], [2, 3, 5, 23], [691], [2, 2, 173], [3, 3, 7, 11], [2, 347], [5, 139], [2, 2, 2, 3, 29], [17, 41], [2, 349], [3, 233], [2, 2, 5, 5, 7]]
def ftab7 : List (List Nat) := [[701], [2, 3, 3, 3, 13], [19, 37], [2, 2, 2, 2, 2, 2, 11], [3, 5, 47], [2, 353], [7, 101], [2, 2, 3, 59], [709], [2, 5, 71], [3, 3, 79], [2, 2, 2, 89], [23, 31], [2, 3, 7, 17], [5, 11, 13], [2, 2, 179], [3, 239], [2, 359], [719], [2, 2, 2, 2, 3, 3, 5], [7, 103], [2, 19, 19], [3, 241], [2, 2, 181], [5, 5, 29], [2, 3, 11, 11], [727], [2, 2, 2, 7, 13], [3, 3, 3, 3, 3, 3], [2, 5, 73], [17, 43], [2, 2, 3, 61], [733], [2, 367], [3, 5, 7, 7], [2, 2, 2, 2, 2, 23], [11, 67], [2, 3, 3, 41], [739], [2, 2, 5, 37], [3, 13, 19], [2, 7, 53], [743], [2, 2, 2, 3, 31], [5, 149], [2, 373], [3, 3, 83], [2, 2, 11, 17], [7, 107], [2, 3, 5, 5, 5], [751], [2, 2, 2, 2, 47], [3, 251], [2, 13, 29], [5, 151], [2, 2, 3, 3, 3, 7], [757], [2, 379], [3, 11, 23], [2, 2, 2, 5, 19], [761], [2, 3, 127], [7, 109], [2, 2, 191], [3, 3, 5, 17], [2, 383], [13, 59], [2, 2, 2, 2, 2, 2, 2, 2, 3], [769], [2, 5, 7, 11], [3, 257], [2, 2, 193], [773], [2, 3, 3, 43], [5, 5, 31], [2, 2, 2, 97], [3, 7, 37], [2, 389], [19, 41], [2, 2, 3, 5, 13], [11, 71], [2, 17, 23], [3, 3, 3, 29], [2, 2, 2, 2, 7, 7], [5, 157], [2, 3, 131], [787], [2, 2, 197], [3, 263], [2, 5, 79], [7, 113], [2, 2, 2, 3, 3, 11], [13, 61], [2, 397], [3, 5, 53], [2, 2, 199], [797], [2, 3, 7, 19], [17, 47], [2, 2, 2, 2, 2, 5, 5]]
def ftab8 : List (List Nat) := [[3, 3, 89], [2, 401], [11, 73], [2, 2, 3, 67], [5, 7, 23], [2, 13, 31], [3, 269], [2, 2, 2, 101], [809], [2, 3, 3, 3, 3, 5], [811], [2, 2, 7, 29], [3, 271], [2, 11, 37], [5, 163], [2, 2, 2, 2, 3, 17], [19, 43], [2, 409], [3, 3, 7, 13], [2, 2, 5, 41], [821], [2, 3, 137], [823], [2, 2, 2, 103], [3, 5, 5, 11], [2, 7, 59], [827], [2, 2, 3, 3, 23], [829], [2, 5, 83], [3, 277], [2, 2, 2, 2, 2, 2, 13], [7, 7, 17], [2, 3, 139], [5, 167], [2, 2, 11, 19], [3, 3, 3, 31], [2, 419], [839], [2, 2, 2, 3, 5, 7], [29, 29], [2, 421], [3, 281], [2, 2, 211], [5, 13, 13], [2, 3, 3, 47], [7, 11, 11], [2, 2, 2, 2, 53], [3, 283], [2, 5, 5, 17], [23, 37], [2, 2, 3, 71], [853], [2, 7, 61], [3, 3, 5, 19], [2, 2, 2, 107], [857], [2, 3, 11, 13], [859], [2, 2, 5, 43], [3, 7, 41], [2, 431], [863], [2, 2, 2, 2, 2, 3, 3, 3], [5, 173], [2, 433], [3, 17, 17], [2, 2, 7, 31], [11, 79], [2, 3, 5, 29], [13, 67], [2, 2, 2, 109], [3, 3, 97], [2, 19, 23], [5, 5, 5, 7], [2, 2, 3, 73], [877], [2, 439], [3, 293], [2, 2, 2, 2, 5, 11], [881], [2, 3, 3, 7, 7], [883], [2, 2, 13, 17], [3, 5, 59], [2, 443], [887], [2, 2, 2, 3, 37], [7, 127], [2, 5, 89], [3, 3, 3, 3, 11], [2, 2, 223], [19, 47], [2, 3, 149], [5, 179], [2, 2, 2, 2, 2, 2, 2, 7], [3, 13, 23], [2, 449], [29, 31], [2, 2, 3, 3, 5, 5]]
def ftab9 : List (List Nat) := [[17, 53], [2, 11, 41], [3, 7, 43], [2, 2, 2, 113], [5, 181], [2, 3, 151], [907], [2, 2, 227], [3, 3, 101], [2, 5, 7, 13], [911], [2, 2, 2, 2, 3, 19], [11, 83], [2, 457], [3, 5, 61], [2, 2, 229], [7, 131], [2, 3, 3, 3, 17], [919], [2, 2, 2, 5, 23], [3, 307], [2, 461], [13, 71], [2, 2, 3, 7, 11], [5, 5, 37], [2, 463], [3, 3, 103], [2, 2, 2, 2, 2, 29], [929], [2, 3, 5, 31], [7, 7, 19], [2, 2, 233], [3, 311], [2, 467], [5, 11, 17], [2, 2, 2, 3, 3, 13], [937], [2, 7, 67], [3, 313], [2, 2, 5, 47], [941], [2, 3, 157], [23, 41], [2, 2, 2, 2, 59], [3, 3, 3, 5, 7], [2, 11, 43], [947], [2, 2, 3, 79], [13, 73], [2, 5, 5, 19], [3, 317], [2, 2, 2, 7, 17], [953], [2, 3, 3, 53], [5, 191], [2, 2, 239], [3, 11, 29], [2, 479], [7, 137], [2, 2, 2, 2, 2, 2, 3, 5], [31, 31], [2, 13, 37], [3, 3, 107], [2, 2, 241], [5, 193], [2, 3, 7, 23], [967], [2, 2, 2, 11, 11], [3, 17, 19], [2, 5, 97], [971], [2, 2, 3, 3, 3, 3, 3], [7, 139], [2, 487], [3, 5, 5, 13], [2, 2, 2, 2, 61], [977], [2, 3, 163], [11, 89], [2, 2, 5, 7, 7], [3, 3, 109], [2, 491], [983], [2, 2, 2, 3, 41], [5, 197], [2, 17, 29], [3, 7, 47], [2, 2, 13, 19], [23, 43], [2, 3, 3, 5, 11], [991], [2, 2, 2, 2, 2, 31], [3, 331], [2, 7, 71], [5, 199], [2, 2, 3, 83], [997], [2, 499], [3, 3, 3, 37], [2, 2, 2, 5, 5, 5]]
def ftab10 : List (List Nat) := [[7, 11, 13], [2, 3, 167], [17, 59], [2, 2, 251], [3, 5, 67], [2, 503], [19, 53], [2, 2, 2, 2, 3, 3, 7], [1009], [2, 5, 101], [3, 337], [2, 2, 11, 23], [1013], [2, 3, 13, 13], [5, 7, 29], [2, 2, 2, 127], [3, 3, 113], [2, 509], [1019], [2, 2, 3, 5, 17], [1021], [2, 7, 73], [3, 11, 31], [2, 2, 2, 2, 2, 2, 2, 2, 2, 2], [5, 5, 41], [2, 3, 3, 3, 19], [13, 79], [2, 2, 257], [3, 7, 7, 7], [2, 5, 103], [1031], [2, 2, 2, 3, 43], [1033], [2, 11, 47], [3, 3, 5, 23], [2, 2, 7, 37], [17, 61], [2, 3, 173], [1039], [2, 2, 2, 2, 5, 13], [3, 347], [2, 521], [7, 149], [2, 2, 3, 3, 29], [5, 11, 19], [2, 523], [3, 349], [2, 2, 2, 131], [1049], [2, 3, 5, 5, 7], [1051], [2, 2, 263], [3, 3, 3, 3, 13], [2, 17, 31], [5, 211], [2, 2, 2, 2, 2, 3, 11]]
def ftab : List (List Nat) := ftab0 ++ ftab1 ++ ftab2 ++ ftab3 ++ ftab4 ++ ftab5 ++ ftab6 ++ ftab7 ++ ftab8 ++ ftab9 ++ ftab10
def prB (p : Nat) : Bool := Nat.ble 2 p && (List.range 33).all fun q => Nat.ble q 1 || Nat.ble p q || !(Nat.beq (p % q) 0)
def facB : Nat → List (List Nat) → Bool
  | _, [] => true
  | a, l :: r => Nat.beq (l.foldr (· * ·) 1) a && l.all (fun p => prB p && Nat.ble p 1088) && facB (a + 1) r
theorem ftab_ok : facB 1 ftab = true := by decide +kernel
theorem ftab_len : ftab.length = 1056 := by decide +kernel
theorem pr_of_b {p : Nat} (h : prB p = true) (h2 : p ≤ 1088) : Pr p := by
  unfold prB at h
  rw [Bool.and_eq_true] at h
  have hp2 : 2 ≤ p := Nat.le_of_ble_eq_true h.1
  refine pr_of_noDiv hp2 (c := 33) (fun q hq hd hlt => ?_) (by omega)
  apply Classical.byContradiction
  intro hc
  have h3 := List.all_eq_true.1 h.2 q (List.mem_range.2 (by omega))
  rw [Bool.or_eq_true, Bool.or_eq_true] at h3
  rcases h3 with (h3 | h3) | h3
  · have := Nat.le_of_ble_eq_true h3; omega
  · have := Nat.le_of_ble_eq_true h3; omega
  · rw [Nat.mod_eq_zero_of_dvd hd] at h3
    cases h3
theorem facB_at : ∀ (T : List (List Nat)) (a i : Nat), facB a T = true → i < T.length → (T.getD i []).foldr (· * ·) 1 = a + i ∧ ∀ p ∈ T.getD i [], Pr p
  | [], a, i, _, hi => by simp at hi
  | l :: r, a, i, h, hi => by
    unfold facB at h
    rw [Bool.and_eq_true, Bool.and_eq_true] at h
    cases i with
    | zero =>
      refine ⟨Nat.eq_of_beq_eq_true h.1.1, fun p hp => ?_⟩
      have := List.all_eq_true.1 h.1.2 p hp
      rw [Bool.and_eq_true] at this
      exact pr_of_b this.1 (Nat.le_of_ble_eq_true this.2)
    | succ i =>
      have := facB_at r (a + 1) i h.2 (by simpa using hi)
      rw [List.getD_cons_succ]
      exact ⟨by rw [this.1]; omega, this.2⟩
/-- The prime factors of a. -/
def fc (a : Nat) : List Nat := ftab.getD (a - 1) []
theorem fc_ok {a : Nat} (h1 : 1 ≤ a) (h2 : a ≤ 1056) : (fc a).foldr (· * ·) 1 = a ∧ ∀ p ∈ fc a, Pr p := by
  have := facB_at ftab 1 (a - 1) ftab_ok (by rw [ftab_len]; omega)
  exact ⟨by unfold fc; rw [this.1]; omega, this.2⟩
def dI (neg : Bool) (m : Nat) : Int := cond neg (-(m : Int)) m
def re (neg : Bool) (m p : Nat) : Nat := cond neg ((p - m % p) % p) (m % p)
def syN (neg : Bool) (m p : Nat) : Nat :=
  cond (Nat.beq p 2) (cond (Nat.beq (m % 2) 0) 0 (cond (Nat.beq (re neg m 8) 1 || Nat.beq (re neg m 8) 7) 1 2))
    (cond (Nat.beq (re neg m p) 0) 0 (cond (Nat.beq (re neg m p ^ ((p - 1) / 2) % p) 1) 1 2))
def chiN (neg : Bool) (m : Nat) : List Nat → Nat
  | [] => 1
  | p :: l => syN neg m p * chiN neg m l % 3
def sgn (t : Nat) : Int := cond (Nat.beq t 0) 0 (cond (Nat.beq t 1) 1 (-1))
theorem re_ok (neg : Bool) (m : Nat) {p : Nat} (hp : 0 < p) : dI neg m % (p : Int) = ((re neg m p : Nat) : Int) := by
  unfold dI re
  cases neg with
  | false => exact (Int.natCast_emod m p).symm
  | true =>
    rw [cond_true, cond_true]
    have hm := Nat.mod_lt m hp
    have hd := Nat.div_add_mod m p
    generalize m % p = r at *
    generalize m / p = q at *
    by_cases h0 : r = 0
    · subst h0
      rw [Nat.sub_zero, Nat.mod_self]
      exact (ediv_of (Q := -(q : Int)) (by rw [Int.mul_neg, ← Int.natCast_mul]; omega) (by decide) (by omega) (by omega)).2
    · rw [Nat.mod_eq_of_lt (by omega)]
      exact (ediv_of (Q := -(q : Int) - 1) (by rw [Int.mul_sub, Int.mul_neg, ← Int.natCast_mul]; omega) (by omega) (by omega) (by omega)).2
theorem syN_ok (neg : Bool) (m : Nat) {p : Nat} (hp : Pr p) : sy (dI neg m) p = sgn (syN neg m p) := by
  have hp2 := hp.1
  unfold sy syN
  by_cases h2 : p = 2
  · subst h2
    rw [if_pos rfl, show Nat.beq 2 2 = true from rfl, cond_true]
    have h8 := re_ok neg m (p := 8) (by decide)
    have hm : (m % 2 = 0 ↔ re neg m 8 % 2 = 0) ∧ re neg m 8 < 8 := by
      unfold re
      cases neg
      · rw [cond_false]; omega
      · rw [cond_true]; omega
    rw [show (8 : Int) = ((8 : Nat) : Int) from rfl, h8]
    generalize re neg m 8 = r at hm ⊢
    obtain ⟨h3, h4⟩ := hm
    have h5 : m % 2 = 0 ∨ m % 2 = 1 := by omega
    have h6 : r = 0 ∨ r = 1 ∨ r = 2 ∨ r = 3 ∨ r = 4 ∨ r = 5 ∨ r = 6 ∨ r = 7 := by omega
    rcases h5 with h5 | h5 <;> rw [h5] at h3 ⊢ <;> rcases h6 with rfl | rfl | rfl | rfl | rfl | rfl | rfl | rfl <;> first | rfl | (exfalso; omega)
  · rw [if_neg h2, re_ok neg m (by omega)]
    have e2 : Nat.beq p 2 = false := by
      cases h : Nat.beq p 2 with
      | false => rfl
      | true => exact absurd (Nat.eq_of_beq_eq_true h) h2
    rw [e2, cond_false]
    cases h0 : Nat.beq (re neg m p) 0 with
    | true =>
      rw [if_pos (by rw [Nat.eq_of_beq_eq_true h0]; rfl)]
      rfl
    | false =>
      have hne : re neg m p ≠ 0 := fun h => by rw [h] at h0; cases h0
      rw [if_neg (by omega), Int.toNat_natCast, cond_false]
      cases h1 : Nat.beq (re neg m p ^ ((p - 1) / 2) % p) 1 with
      | true => rw [if_pos (Nat.eq_of_beq_eq_true h1)]; rfl
      | false =>
        rw [if_neg (fun h => by rw [h] at h1; cases h1)]
        rfl
theorem syN_lt (neg : Bool) (m p : Nat) : syN neg m p < 3 := by
  unfold syN
  cases Nat.beq p 2 <;> cases Nat.beq (m % 2) 0 <;> cases (Nat.beq (re neg m 8) 1 || Nat.beq (re neg m 8) 7) <;> cases Nat.beq (re neg m p) 0 <;> cases Nat.beq (re neg m p ^ ((p - 1) / 2) % p) 1 <;> decide
theorem chiN_lt (neg : Bool) (m : Nat) : ∀ l, chiN neg m l < 3
  | [] => (by decide : 1 < 3)
  | p :: l => Nat.mod_lt _ (by decide)
theorem sgn_mul : ∀ a : Fin 3, ∀ b : Fin 3, sgn (a.val * b.val % 3) = sgn a.val * sgn b.val := by decide
theorem chi_jr (neg : Bool) (m : Nat) : ∀ l : List Nat, (∀ p ∈ l, Pr p) → JR (sy (dI neg m)) (l.foldr (· * ·) 1) (sgn (chiN neg m l))
  | [], _ => JR.one
  | p :: l, h => by
    have ih := chi_jr neg m l (fun q hq => h q (List.mem_cons_of_mem _ hq))
    have hp := h p (List.mem_cons_self ..)
    have := JR.mul hp ih
    rw [syN_ok neg m hp] at this
    have e := sgn_mul ⟨syN neg m p, syN_lt neg m p⟩ ⟨chiN neg m l, chiN_lt neg m l⟩
    rw [← e] at this
    exact this
/-- The character. -/
def chi (neg : Bool) (m a : Nat) : Int := sgn (chiN neg m (fc a))
theorem kr_chi (neg : Bool) (m : Nat) {a : Nat} {v : Int} (h1 : 1 ≤ a) (h2 : a ≤ 1056) (h : kr (dI neg m) (a : Int) v) : v = chi neg m a := by
  obtain ⟨f1, f2⟩ := fc_ok h1 h2
  have hj := chi_jr neg m (fc a) f2
  rw [f1] at hj
  rcases h with ⟨h0, _⟩ | ⟨_, L, hL, rfl⟩
  · omega
  · rw [if_neg (by omega), Int.one_mul]
    exact JR.fn hL.jr hj
def dtab0 : List (Bool × Nat) := [(true, 788), (true, 776), (true, 772), (true, 760), (true, 744), (true, 740), (true, 728), (true, 724), (true, 712), (true, 708), (true, 696), (true, 692), (true, 680), (true, 664), (true, 660), (true, 644), (true, 632), (true, 628), (true, 616), (true, 596), (true, 584), (true, 580), (true, 568), (true, 564), (true, 552), (true, 548), (true, 536), (true, 532), (true, 520), (true, 516), (true, 488), (true, 472), (true, 456), (true, 452), (true, 440), (true, 436), (true, 424), (true, 420), (true, 408), (true, 404), (true, 388), (true, 376), (true, 372), (true, 356), (true, 344), (true, 340), (true, 328), (true, 312), (true, 308), (true, 296), (true, 292), (true, 280), (true, 276), (true, 264), (true, 260), (true, 248), (true, 244), (true, 232), (true, 228), (true, 212), (true, 199), (true, 195), (true, 191), (true, 187), (true, 184), (true, 183), (true, 179), (true, 168), (true, 167), (true, 164), (true, 163), (true, 159), (true, 155), (true, 152), (true, 151), (true, 148), (true, 143), (true, 139), (true, 136), (true, 132), (true, 131), (true, 127), (true, 123), (true, 120), (true, 119), (true, 116), (true, 115), (true, 111), (true, 107), (true, 104), (true, 103), (true, 95), (true, 91), (true, 88), (true, 87), (true, 84), (true, 83), (true, 79), (true, 71), (true, 68)]
def dtab1 : List (Bool × Nat) := [(true, 67), (true, 59), (true, 56), (true, 55), (true, 52), (true, 51), (true, 47), (true, 43), (true, 40), (true, 39), (true, 35), (true, 31), (true, 24), (true, 23), (true, 20), (true, 19), (true, 15), (true, 11), (true, 8), (true, 7), (true, 4), (true, 3), (false, 1), (false, 5), (false, 8), (false, 12), (false, 13), (false, 17), (false, 21), (false, 24), (false, 28), (false, 29), (false, 33), (false, 37), (false, 40), (false, 41), (false, 44), (false, 53), (false, 56), (false, 57), (false, 60), (false, 61), (false, 65), (false, 69), (false, 73), (false, 76), (false, 77), (false, 85), (false, 88), (false, 89), (false, 92), (false, 93), (false, 97), (false, 101), (false, 104), (false, 105), (false, 109), (false, 113), (false, 120), (false, 124), (false, 129), (false, 133), (false, 136), (false, 137), (false, 140), (false, 141), (false, 145), (false, 149), (false, 152), (false, 156), (false, 157), (false, 161), (false, 165), (false, 168), (false, 172), (false, 173), (false, 177), (false, 181), (false, 184), (false, 185), (false, 188), (false, 193), (false, 197), (false, 204), (false, 220), (false, 232), (false, 236), (false, 248), (false, 264), (false, 268), (false, 280), (false, 284), (false, 296), (false, 312), (false, 316), (false, 328), (false, 332), (false, 344), (false, 348), (false, 364)]
def dtab2 : List (Bool × Nat) := [(false, 376), (false, 380), (false, 408), (false, 412), (false, 424), (false, 428), (false, 440), (false, 444), (false, 456), (false, 460), (false, 472), (false, 476), (false, 488), (false, 492), (false, 508), (false, 520), (false, 524), (false, 536), (false, 552), (false, 556), (false, 568), (false, 572), (false, 584), (false, 604), (false, 616), (false, 620), (false, 632), (false, 636), (false, 652), (false, 664), (false, 668), (false, 680), (false, 696), (false, 712), (false, 716), (false, 728), (false, 732), (false, 744), (false, 748), (false, 760), (false, 764), (false, 776), (false, 780), (false, 796)]
def dtab : List (Bool × Nat) := dtab0 ++ dtab1 ++ dtab2
def hasD (t : List (Bool × Nat)) (d : Int) : Bool := t.any fun x => decide (dI x.1 x.2 = d)
theorem hasD_mem {d : Int} (h : hasD dtab d = true) : ∃ x ∈ dtab, d = dI x.1 x.2 := by
  obtain ⟨x, hx, h2⟩ := List.any_eq_true.1 h
  exact ⟨x, hx, (of_decide_eq_true h2).symm⟩
noncomputable def discB (m : Int) : Bool :=
  match c_prime_Discriminant 100 m with
  | some y => decide (y.2.1 = 0) && hasD dtab y.1
  | none => false
theorem disc_tab : ((List.range 199).all fun i => discB ((i + 2 : Nat) : Int) && discB (-((i + 2 : Nat) : Int))) = true := by decide +kernel
theorem disc_ok {m : Int} (h : 2 ≤ m ∧ m ≤ 200 ∨ -200 ≤ m ∧ m ≤ -2) : ∃ x ∈ dtab, quadformref22_Discriminant m = some (dI x.1 x.2, 0, ()) := by
  have hb : discB m = true := by
    have h3 := List.all_eq_true.1 disc_tab (m.natAbs - 2) (List.mem_range.2 (by omega))
    rw [Bool.and_eq_true] at h3
    rcases h with h | h
    · rw [show m = ((m.natAbs - 2 + 2 : Nat) : Int) by omega]; exact h3.1
    · rw [show m = -((m.natAbs - 2 + 2 : Nat) : Int) by omega]; exact h3.2
  unfold discB at hb
  cases hc : c_prime_Discriminant 100 m with
  | none => rw [hc] at hb; cases hb
  | some y =>
    obtain ⟨d, e, u⟩ := y
    rw [hc] at hb
    simp only [Bool.and_eq_true, decide_eq_true_eq] at hb
    obtain ⟨rfl, hd⟩ := hb
    obtain ⟨x, hx, rfl⟩ := hasD_mem hd
    have hp := c_prime_Discriminant.le 100 m _ hc
    obtain ⟨d', e', q1, q2⟩ := both_disc m
    rw [hp] at q1
    cases q1
    exact ⟨x, hx, q2⟩
theorem discriminant_ok {n : Int} (h : -32768 ≤ n ∧ n ≤ 32767) : ∃ x ∈ dtab, quadformlaw31_discriminant n = some (dI x.1 x.2) := by
  have e1 : IntKind.wrap .u16 n = n % 65536 := by simp [IntKind.wrap, IntKind.bits, IntKind.signed]
  have h0 : 0 ≤ n % 65536 ∧ n % 65536 < 65536 := by omega
  obtain ⟨b, hb⟩ : ∃ b : Nat, n % 65536 = b := ⟨(n % 65536).toNat, by omega⟩
  have e2 : Int.tdiv (b : Int) 256 = ((b / 256 : Nat) : Int) := (Int.ofNat_tdiv b 256).symm
  have e3 : Int.tmod ((b / 256 : Nat) : Int) 2 = ((b / 256 % 2 : Nat) : Int) := (Int.ofNat_tmod _ 2).symm
  have hr : -99 ≤ Int.tmod n 100 ∧ Int.tmod n 100 ≤ 99 := by
    have h1 := Int.tmod_lt_of_pos n (show (0 : Int) < 100 by decide)
    have h2 := Int.neg_tmod n 100
    have h3 := Int.tmod_lt_of_pos (-n) (show (0 : Int) < 100 by decide)
    omega
  obtain ⟨t, ht⟩ : ∃ t, t = Int.tmod n 100 := ⟨_, rfl⟩
  rw [← ht] at hr
  have hm : b / 256 % 2 = 0 ∨ b / 256 % 2 = 1 := by omega
  have key : ∀ c : Int, (c = 101 ∨ c = -101) → ∃ x ∈ dtab, quadformref22_Discriminant (t + c) = some (dI x.1 x.2, 0, ()) := fun c hc => disc_ok (by omega)
  unfold quadformlaw31_discriminant
  rw [← ht, e1, hb, wi64 (x := (b : Int)) (by omega) (by omega), e2, wi64 (x := ((b / 256 : Nat) : Int)) (by omega) (by omega), e3, wi64 (x := t) (by omega) (by omega)]
  rcases hm with hm | hm <;> rw [hm]
  · rw [show IntKind.wrap .i64 ((101 : Int) * IntKind.wrap .i64 (1 - IntKind.wrap .i64 (2 * ((0 : Nat) : Int)))) = 101 by decide]
    obtain ⟨x, hx, hd⟩ := key 101 (.inl rfl)
    rw [wi64 (by omega) (by omega), hd, Option.bind_some]
    exact ⟨x, hx, rfl⟩
  · rw [show IntKind.wrap .i64 ((101 : Int) * IntKind.wrap .i64 (1 - IntKind.wrap .i64 (2 * ((1 : Nat) : Int)))) = -101 by decide]
    obtain ⟨x, hx, hd⟩ := key (-101) (.inr rfl)
    rw [wi64 (by omega) (by omega), hd, Option.bind_some]
    exact ⟨x, hx, rfl⟩
theorem fund_tab : (dtab.all fun x => decide (c_bernoulli_Fundamental 100 (dI x.1 x.2) = some true) && decide (0 < x.2) && decide (x.2 ≤ 800)) = true := by decide +kernel
theorem fund_ok {x : Bool × Nat} (h : x ∈ dtab) : bernoulli_Fundamental (dI x.1 x.2) = some true ∧ 0 < x.2 ∧ x.2 ≤ 800 := by
  have h2 := List.all_eq_true.1 fund_tab x h
  rw [Bool.and_eq_true, Bool.and_eq_true, decide_eq_true_eq, decide_eq_true_eq, decide_eq_true_eq] at h2
  exact ⟨c_bernoulli_Fundamental.le 100 _ _ h2.1.1, h2.1.2, h2.2⟩
end Go.Proofs.Ytbchgegclgpdhaa.V
/- Generalized Bernoulli numbers: what the program computes. -/
namespace Go.Proofs.Ytbchgegclgpdhaa.V
open Go Go.Proofs.Ytbchgegclgpdhaa.E Go.Proofs.Ytbchgegclgpdhaa.LI Go.Proofs.Ytbchgegclgpdhaa.Num
set_option linter.unusedVariables false
set_option linter.unusedSimpArgs false
/-- The sum of c(a) a^j over a = 1 .. m. -/
def ssum (c : Nat → Int) (j : Nat) : Nat → Int
  | 0 => 0
  | m + 1 => ssum c j m + c (m + 1) * ((m + 1 : Nat) : Int) ^ j
/-- The sum of binomial(k, i) B_i f^(i-1) S_(k-i) over i below n. -/
def fpow (f : Nat) : Nat → Rat
  | 0 => ((((f : Int) : Rat)) ^ 1)⁻¹
  | i + 1 => (((f : Int) : Rat)) ^ i
def gsum (k f : Nat) (S : Nat → Int) : Nat → Rat
  | 0 => 0
  | i + 1 => gsum k f S i + (((bin k i : Int) : Rat) * (bern k).getD i 0) * (fpow f i * ((S (k - i) : Int) : Rat))
def trit (c : Nat → Int) : Prop := ∀ a, c a = -1 ∨ c a = 0 ∨ c a = 1
theorem ssum_bd {c : Nat → Int} (hc : trit c) {j : Nat} : ∀ {m : Nat}, m ≤ 1023 → (ssum c j m).natAbs ≤ m * 1024 ^ j
  | 0, _ => by simp [ssum]
  | m + 1, h => by
    have ih := ssum_bd hc (j := j) (m := m) (by omega)
    have hp : (((m + 1 : Nat) : Int) ^ j).natAbs ≤ 1024 ^ j := by
      rw [Int.natAbs_pow, Int.natAbs_natCast]
      exact Nat.pow_le_pow_left (by omega) j
    have h1 : (c (m + 1) * ((m + 1 : Nat) : Int) ^ j).natAbs ≤ 1024 ^ j := by
      rw [Int.natAbs_mul]
      rcases hc (m + 1) with h | h | h <;> rw [h] <;> simp <;> simpa using hp
    rw [ssum, Nat.add_mul, Nat.one_mul]
    exact Nat.le_trans (Int.natAbs_add_le _ _) (Nat.add_le_add ih h1)
theorem ssum_B {c : Nat → Int} (hc : trit c) {j m : Nat} (hm : m ≤ 1023) (hj : j ≤ 20) : Bd 220 (ssum c j m) := by
  have h := ssum_bd hc (j := j) hm
  unfold Bd
  have h2 : m * 1024 ^ j ≤ 1023 * 1024 ^ 20 := Nat.mul_le_mul hm (Nat.pow_le_pow_right (by decide) hj)
  have h3 : (1023 * 1024 ^ 20 : Nat) < 2 ^ 220 := by decide
  omega
section
variable {k f : Nat} {c : Nat → Int}
/-- The sums while the powers of one number are added. -/
def mix (c : Nat → Int) (k m j : Nat) : List IV := (List.range (k + 1)).map fun i => mkI (if i < j then ssum c i (m + 1) else ssum c i m)
theorem mix_len (m j : Nat) : (mix c k m j).length = k + 1 := by unfold mix; rw [List.length_map, List.length_range]
theorem mix_get (m j : Nat) {i : Nat} (hi : i < k + 1) : (mix c k m j).getD i (false, (([] : List Int), ())) = mkI (if i < j then ssum c i (m + 1) else ssum c i m) := by
  unfold mix
  rw [getD_map _ _ _ _ 0 (by rw [List.length_range]; exact hi)]
  simp [List.getD_eq_getElem?_getD, hi]
theorem mix_set (m : Nat) {j : Nat} (hj : j < k + 1) : (mix c k m j).set j (mkI (ssum c j (m + 1))) = mix c k m (j + 1) := by
  apply List.ext_getElem?
  intro i
  unfold mix
  by_cases hi : i < k + 1
  · by_cases e : j = i
    · subst e
      rw [List.getElem?_set_self (by rw [List.length_map, List.length_range]; exact hj)]
      simp [hi]
    · rw [List.getElem?_set_ne e]
      simp only [List.getElem?_map, List.getElem?_range hi, Option.map_some]
      by_cases h1 : i < j
      · rw [if_pos h1, if_pos (by omega)]
      · rw [if_neg h1, if_neg (by omega)]
  · rw [List.getElem?_eq_none (by simp; omega), List.getElem?_eq_none (by simp; omega)]
theorem mix_full (m : Nat) : mix c k m (k + 1) = (List.range (k + 1)).map fun i => mkI (ssum c i (m + 1)) := by
  unfold mix
  apply List.map_congr_left
  intro i hi
  rw [if_pos (List.mem_range.1 hi)]
theorem mix_none (m : Nat) : mix c k m 0 = (List.range (k + 1)).map fun i => mkI (ssum c i m) := by
  unfold mix
  apply List.map_congr_left
  intro i hi
  rw [if_neg (by omega)]
theorem gen_inner (hc : trit c) (hk : k ≤ 20) (d t6 : Int) {m : Nat} (hm : m < 1000) (b4 : QV) : ∀ (t j : Nat), k + 1 - j = t → j ≤ k + 1 →
    iterL (fun x : Int × Int × Int × Int × Int × Int × (List (Bool × List Int × Unit)) × ((Bool × List Int × Unit) × (Bool × List Int × Unit) × Unit) × (Bool × List Int × Unit) × (Bool × List Int × Unit) × Unit => bernoulli_Generalized.s0 x.1 x.2.1 x.2.2.1 x.2.2.2.1 x.2.2.2.2.1 x.2.2.2.2.2.1 x.2.2.2.2.2.2.1 x.2.2.2.2.2.2.2.1 x.2.2.2.2.2.2.2.2.1 x.2.2.2.2.2.2.2.2.2.1) ((k : Int), d, t6, ((m + 1 : Nat) : Int), ((k + 1 : Nat) : Int), (j : Int), mix c k m j, b4, mkI ((m + 1 : Nat) : Int), mkI (c (m + 1) * ((m + 1 : Nat) : Int) ^ j), ()) =
      some ((k : Int), d, t6, ((m + 1 : Nat) : Int), mix c k m (k + 1), b4, ()) := by
  intro t
  induction t with
  | zero =>
    intro j ht hj
    obtain rfl : j = k + 1 := by omega
    refine iterL_done ?_
    simp only [bernoulli_Generalized.s0, cite, decide_eq_true_eq, etaI, etaQ, etaP]
    rw [if_neg (by omega)]
  | succ t ih =>
    intro j ht hj
    refine (iterL_next ?_).trans (ih (j + 1) (by omega) (by omega))
    have hb := ssum_B hc (j := j) (m := m) (by omega) (by omega)
    have hl := mix_len (c := c) (k := k) m j
    have hp : Bd 64 ((m + 1 : Nat) : Int) := Bd.i64 (by omega) (by omega)
    have hq : Bd 220 (c (m + 1) * ((m + 1 : Nat) : Int) ^ j) := by
      have h1 := Bd.pow (n := 10) (a := ((m + 1 : Nat) : Int)) (by unfold Bd; rw [Int.natAbs_natCast]; have : (2 : Nat) ^ 10 = 1024 := by decide
                                                                   omega) j
      have h2 : Bd 1 (c (m + 1)) := by unfold Bd; rcases hc (m + 1) with h | h | h <;> rw [h] <;> decide
      exact (h2.mul h1).mono (by omega)
    simp only [bernoulli_Generalized.s0, bernoulli_Generalized.j5, cite, decide_eq_true_eq, inB_t, etaI, etaQ, etaP]
    rw [if_pos (by omega), if_pos (by omega), Int.toNat_natCast, Nat.zero_add, mix_get m j (by omega), if_neg (by omega), addI hb hq (by decide), Option.bind_some, if_pos (by omega), mulB hq (hp.mono (by decide)) (by decide), Option.bind_some, up (by omega)]
    have e1 : ssum c j m + c (m + 1) * ((m + 1 : Nat) : Int) ^ j = ssum c j (m + 1) := rfl
    rw [e1, mix_set m (by omega), Int.mul_assoc, ← Int.pow_succ]
theorem gen_outer (hc : trit c) (hk : k ≤ 20) {d : Int} (hd : -1000 ≤ d ∧ d ≤ 1000) (hf : f ≤ 1000) (hkr : ∀ a v, 1 ≤ a → a ≤ f → kr d ((a : Nat) : Int) v → v = c a) (b4 : QV) : ∀ (t m : Nat), f - m = t → m ≤ f →
    iterL (fun x : Int × Int × Int × Int × (List (Bool × List Int × Unit)) × ((Bool × List Int × Unit) × (Bool × List Int × Unit) × Unit) × Unit => bernoulli_Generalized.s1 x.1 x.2.1 x.2.2.1 x.2.2.2.1 x.2.2.2.2.1 x.2.2.2.2.2.1) ((k : Int), d, (f : Int), ((m + 1 : Nat) : Int), (List.range (k + 1)).map (fun i => mkI (ssum c i m)), b4, ()) =
      some ((k : Int), (f : Int), (List.range (k + 1)).map (fun i => mkI (ssum c i f)), b4, ()) := by
  intro t
  induction t with
  | zero =>
    intro m ht hm
    obtain rfl : m = f := by omega
    refine iterL_done ?_
    simp only [bernoulli_Generalized.s1, cite, decide_eq_true_eq, etaI, etaQ, etaP]
    rw [if_neg (by omega)]
  | succ t ih =>
    intro m ht hm
    refine (iterL_next ?_).trans (ih (m + 1) (by omega) (by omega))
    obtain ⟨v, k1, k2⟩ := kron_ok (a := d) (n := ((m + 1 : Nat) : Int)) (by omega) (by omega)
    have hv := hkr (m + 1) v (by omega) (by omega) k1
    simp only [bernoulli_Generalized.s1, bernoulli_Generalized.j3, cite, decide_eq_true_eq, beq_iff_eq, etaI, etaQ, etaP]
    rw [if_pos (by omega), k2, Option.bind_some]
    simp only []
    by_cases h0 : v = 0
    · rw [if_pos h0, up (by omega)]
      have e : (List.range (k + 1)).map (fun i => mkI (ssum c i m)) = (List.range (k + 1)).map (fun i => mkI (ssum c i (m + 1))) := by
        apply List.map_congr_left
        intro i _
        rw [ssum, ← hv, h0, Int.zero_mul, Int.add_zero]
      rw [e]
    · rw [if_neg h0]
      have hin := gen_inner hc hk d (f : Int) (m := m) (by omega) b4 _ 0 rfl (by omega)
      rw [mix_none, mix_full, Int.pow_zero, Int.mul_one, ← hv, show ((0 : Nat) : Int) = 0 from rfl] at hin
      have hlen : ((((List.range (k + 1)).map (fun i => mkI (ssum c i m))).length : Nat) : Int) = ((k + 1 : Nat) : Int) := by rw [List.length_map, List.length_range]
      have hv3 : -1 ≤ v ∧ v ≤ 1 := by rcases hc (m + 1) with h | h | h <;> omega
      simp only [bernoulli_Generalized.j4, etaI, etaQ, etaP]
      rw [small_ok (by omega) (by omega), Option.bind_some, small_ok (by omega) (by omega), Option.bind_some, hlen, hin, Option.bind_some]
      simp only [bernoulli_Generalized.k0, etaI, etaQ, etaP]
      rw [up (by omega)]
theorem fpow_bd (h1 : 1 ≤ f) (hf : f ≤ 1000) : ∀ {i : Nat}, i ≤ 20 → BQ 2000 (fpow f i)
  | 0, _ => by
    have h := (bq_nat (n := f) (by omega)).pow 1
    unfold fpow
    rw [show (((f : Int) : Rat) ^ 1)⁻¹ = 1 / (((f : Int) : Rat) ^ 1) by rw [Rat.div_def, Rat.one_mul]]
    exact ((BQ.int (n := 1) (z := 1) (by unfold Bd; decide) (by decide)).div h).mono (by decide)
  | i + 1, h => ((bq_nat (n := f) (by omega)).pow i).mono (by omega)
theorem gsum_bd {S : Nat → Int} (hS : ∀ j, j ≤ k → Bd 220 (S j)) (hk : k ≤ 20) (h1 : 1 ≤ f) (hf : f ≤ 1000) : ∀ {i : Nat}, i ≤ k + 1 → BQ (i * 3000 + 1) (gsum k f S i)
  | 0, _ => BQ.int (z := 0) (Bd.mono (n := 1) (by unfold Bd; decide) (by omega)) (by omega)
  | i + 1, hi => by
    have hb : bin k i < 1000000 := bin_le ⟨k, by omega⟩ ⟨i, by omega⟩
    have := (gsum_bd hS hk h1 hf (i := i) (by omega)).add (((bq_nat hb).mul (bern_bd hk (i := i) (by omega)).1).mul ((fpow_bd h1 hf (i := i) (by omega)).mul (BQ.int (hS (k - i) (by omega)) (by decide))))
    exact this.mono (by omega)
theorem fpow_ok (h1 : 1 ≤ f) (hf : f ≤ 1000) {i : Nat} (hi : i ≤ 20) : rational_Pow (mkQ ((f : Int) : Rat)) (IntKind.wrap .i64 ((i : Int) - 1)) = some (mkQ (fpow f i), true, ()) := by
  have hb := bq_nat (n := f) (by omega)
  cases i with
  | zero =>
    rw [show IntKind.wrap .i64 (((0 : Nat) : Int) - 1) = -((1 : Nat) : Int) by decide]
    exact qpow_neg hb (by show (0 : Int) < (f : Int); omega) (by decide) (by decide) (by decide)
  | succ i =>
    rw [show IntKind.wrap .i64 (((i + 1 : Nat) : Int) - 1) = (i : Int) by rw [wi64 (by omega) (by omega)]; omega]
    exact qpow hb (by show (0 : Int) < (f : Int); omega) (by decide) (by omega)
theorem gen_sum {S : Nat → Int} (hS : ∀ j, j ≤ k → Bd 220 (S j)) (hk : k ≤ 20) (h1 : 1 ≤ f) (hf : f ≤ 1000) (b4 : QV) : ∀ (t i : Nat), k + 1 - i = t → i ≤ k + 1 →
    iterL (fun x : Int × Int × (List ((Bool × List Int × Unit) × (Bool × List Int × Unit) × Unit)) × List Int × Int × Int × (List (Bool × List Int × Unit)) × ((Bool × List Int × Unit) × (Bool × List Int × Unit) × Unit) × ((Bool × List Int × Unit) × (Bool × List Int × Unit) × Unit) × Unit => bernoulli_Generalized.s2 x.1 x.2.1 x.2.2.1 x.2.2.2.1 x.2.2.2.2.1 x.2.2.2.2.2.1 x.2.2.2.2.2.2.1 x.2.2.2.2.2.2.2.1 x.2.2.2.2.2.2.2.2.1) ((k : Int), (f : Int), (bern k).map mkQ, (rowN k).map (fun c : Nat => (c : Int)), ((k + 1 : Nat) : Int), (i : Int), (List.range (k + 1)).map (fun i => mkI (S i)), b4, mkQ (gsum k f S i), ()) =
      some (b4, mkQ (gsum k f S (k + 1)), ()) := by
  intro t
  induction t with
  | zero =>
    intro i ht hi
    obtain rfl : i = k + 1 := by omega
    refine iterL_done ?_
    simp only [bernoulli_Generalized.s2, cite, decide_eq_true_eq, etaI, etaQ, etaP]
    rw [if_neg (by omega)]
  | succ t ih =>
    intro i ht hi
    refine (iterL_next ?_).trans (ih (i + 1) (by omega) (by omega))
    have hb : bin k i < 1000000 := bin_le ⟨k, by omega⟩ ⟨i, by omega⟩
    have hl := bern_len k
    have hr := rowN_len k
    have hrow : ((rowN k).map (fun c : Nat => (c : Int))).getD i 0 = (bin k i : Int) := getD_map _ _ _ _ 0 (by omega)
    have w1 : IntKind.wrap .i64 ((k : Int) - (i : Int)) = ((k - i : Nat) : Int) := by rw [wi64 (by omega) (by omega)]; omega
    have hg : ((List.range (k + 1)).map (fun i => mkI (S i))).getD (k - i) (false, (([] : List Int), ())) = mkI (S (k - i)) := by
      rw [getD_map _ _ _ _ 0 (by rw [List.length_range]; omega)]
      simp [List.getD_eq_getElem?_getD, show k - i < k + 1 by omega]
    have q1 := (bq_nat hb).mul (bern_bd hk (i := i) (by omega)).1
    have q2 := (fpow_bd h1 hf (i := i) (by omega)).mul (BQ.int (hS (k - i) (by omega)) (by decide))
    simp only [bernoulli_Generalized.s2, bernoulli_Generalized.j6, cite, decide_eq_true_eq, inB_t, etaI, etaQ, etaP]
    rw [if_pos (by omega), if_pos (by rw [List.length_map]; omega), whole_ok (by omega) (by omega), Option.bind_some, fpow_ok h1 hf (by omega), Option.bind_some, Int.toNat_natCast, hrow, whole_ok (by omega) (by omega), Option.bind_some, if_pos (by rw [List.length_map]; omega), getD_map mkQ _ _ _ 0 (by omega), qmul (bq_nat hb) (bern_bd hk (i := i) (by omega)).1 (by decide), Option.bind_some, w1, if_pos (by rw [List.length_map, List.length_range]; omega), Int.toNat_natCast, Nat.zero_add, hg, qwhole (hS (k - i) (by omega)) (by decide), Option.bind_some]
    simp only []
    rw [qmul (fpow_bd h1 hf (i := i) (by omega)) (BQ.int (hS (k - i) (by omega)) (by decide)) (by decide), Option.bind_some, qmul q1 q2 (by decide), Option.bind_some, qadd (gsum_bd hS hk h1 hf (i := i) (by omega)) (q1.mul q2) (by omega), Option.bind_some, up (by omega)]
    rfl
theorem gen_ok (hc : trit c) (hk1 : 1 ≤ k) (hk : k ≤ 20) {d : Int} (hfu : bernoulli_Fundamental d = some true) (hdf : d = (f : Int) ∨ d = -(f : Int)) (h1 : 1 ≤ f) (hf : f ≤ 1000) (hkr : ∀ a v, 1 ≤ a → a ≤ f → kr d ((a : Nat) : Int) v → v = c a) :
    bernoulli_Generalized (k : Int) d = some (mkQ (gsum k f (fun j => ssum c j f) (k + 1)), 0, ()) := by
  have hS : ∀ j, j ≤ k → Bd 220 (ssum c j f) := fun j hj => ssum_B hc (by omega) (by omega)
  have p1 := gen_outer hc hk (d := d) (by omega) hf hkr zQ _ 0 rfl (by omega)
  have p2 := gen_sum (S := fun j => ssum c j f) hS hk h1 hf zQ _ 0 rfl (by omega)
  have hr := rowN_len k
  have hlen : ((((rowN k).map fun c : Nat => (c : Int)).length : Nat) : Int) = ((k + 1 : Nat) : Int) := by rw [List.length_map, hr]
  have e1 : (List.range (k + 1)).map (fun i => mkI (ssum c i 0)) = List.replicate (k + 1) ((false, (([] : List Int), ())) : IV) := by
    have : ∀ n, (List.range n).map (fun i => mkI (ssum c i 0)) = List.replicate n ((false, (([] : List Int), ())) : IV) := by
      intro n
      apply List.ext_getElem?
      intro i
      by_cases hi : i < n
      · simp [hi, ssum]; rfl
      · rw [List.getElem?_eq_none (by simp; omega), List.getElem?_eq_none (by simp; omega)]
    exact this _
  rw [e1] at p1
  have run : bernoulli_Generalized.j2 (k : Int) d (f : Int) [] [] = some (mkQ (gsum k f (fun j => ssum c j f) (k + 1)), 0, ()) := by
    unfold bernoulli_Generalized.j2
    simp only [cite, inC_t, maxL_eq, etaI, etaQ, etaP]
    rw [up (by omega), if_pos (by omega), Int.toNat_natCast]
    have p1' : iterL (fun x : Int × Int × Int × Int × (List (Bool × List Int × Unit)) × ((Bool × List Int × Unit) × (Bool × List Int × Unit) × Unit) × Unit => bernoulli_Generalized.s1 x.1 x.2.1 x.2.2.1 x.2.2.2.1 x.2.2.2.2.1 x.2.2.2.2.2.1) ((k : Int), d, (f : Int), 1, List.replicate (k + 1) ((false, (([] : List Int), ())) : IV), ((false, ([], ())), ((false, ([], ())), ())), ()) = _ := p1
    rw [p1', Option.bind_some]
    simp only [bernoulli_Generalized.k1, etaI, etaQ, etaP]
    rw [show ((0 : Nat) : Int) = 0 from rfl, show gsum k f (fun j => ssum c j f) 0 = 0 from rfl] at p2
    rw [numbers_ok hk, Option.bind_some, whole_ok (by decide) (by decide), Option.bind_some, row_ok (by omega), Option.bind_some, hlen, show ((0 : Int) : Rat) = 0 from rfl, p2, Option.bind_some]
    rfl
  unfold bernoulli_Generalized
  simp only [bernoulli_Generalized.j1, cite, decide_eq_true_eq]
  rw [if_neg (by omega), if_neg (by omega), hfu, Option.bind_some]
  simp only [Bool.not_true, Bool.false_eq_true, if_false]
  rcases hdf with rfl | rfl
  · rw [if_neg (by omega)]
    exact run
  · rw [if_pos (by omega), show IntKind.wrap .i64 (0 - -(f : Int)) = (f : Int) by rw [wi64 (by omega) (by omega)]; omega]
    exact run
end
end Go.Proofs.Ytbchgegclgpdhaa.V
/- Generalized Bernoulli numbers of small discriminants: closed values. -/
namespace Go.Proofs.Ytbchgegclgpdhaa.V
open Go Go.Proofs.Ytbchgegclgpdhaa.E Go.Proofs.Ytbchgegclgpdhaa.LI Go.Proofs.Ytbchgegclgpdhaa.Num
set_option linter.unusedVariables false
set_option linter.unusedSimpArgs false
/-- The sum of a^j over the n numbers from a on whose character counts as_ t. -/
def sumP (neg : Bool) (m t j : Nat) : Nat → Nat → List (List Nat) → Nat
  | 0, _, _ => 0
  | n + 1, a, l :: r => cond (Nat.beq (chiN neg m l) t) (a ^ j) 0 + sumP neg m t j n (a + 1) r
  | _ + 1, _, [] => 0
def sumZ (neg : Bool) (m f j : Nat) : Int := (sumP neg m 1 j f 1 ftab : Int) - (sumP neg m 2 j f 1 ftab : Int)
theorem sgn_two (n j a : Nat) : sgn n * (a : Int) ^ j = ((cond (Nat.beq n 1) (a ^ j) 0 : Nat) : Int) - ((cond (Nat.beq n 2) (a ^ j) 0 : Nat) : Int) ∨ 3 ≤ n := by
  by_cases h : n < 3
  · left
    have h3 : n = 0 ∨ n = 1 ∨ n = 2 := by omega
    rcases h3 with rfl | rfl | rfl
    · show (0 : Int) * _ = ((0 : Nat) : Int) - ((0 : Nat) : Int)
      rw [Int.zero_mul]; rfl
    · show (1 : Int) * _ = ((a ^ j : Nat) : Int) - ((0 : Nat) : Int)
      rw [Int.one_mul, Int.natCast_pow]; omega
    · show (-1 : Int) * _ = ((0 : Nat) : Int) - ((a ^ j : Nat) : Int)
      rw [Int.natCast_pow, Int.neg_mul, Int.one_mul]; omega
  · right; omega
theorem ssum_tab (neg : Bool) (m j : Nat) : ∀ n s, s + n ≤ 1056 → ssum (chi neg m) j (s + n) = ssum (chi neg m) j s + ((sumP neg m 1 j n (s + 1) (ftab.drop s) : Int) - (sumP neg m 2 j n (s + 1) (ftab.drop s) : Int))
  | 0, s, _ => by simp [sumP]
  | n + 1, s, h => by
    have ih := ssum_tab neg m j n (s + 1) (by omega)
    have hl := ftab_len
    have hd : ftab.drop s = ftab.getD s [] :: ftab.drop (s + 1) := by
      rw [List.drop_eq_getElem_cons (by omega), List.getD_eq_getElem?_getD, List.getElem?_eq_getElem (by omega)]
      rfl
    rw [show s + (n + 1) = s + 1 + n by omega, ih, hd]
    have e : chi neg m (s + 1) = sgn (chiN neg m (ftab.getD s [])) := rfl
    have h2 := (sgn_two (chiN neg m (ftab.getD s [])) j (s + 1)).resolve_right (by have := chiN_lt neg m (ftab.getD s []); omega)
    rw [ssum, e, h2]
    simp only [sumP]
    omega
theorem ssum_Z (neg : Bool) (m f j : Nat) (hf : f ≤ 1056) : ssum (chi neg m) j f = sumZ neg m f j := by
  have h := ssum_tab neg m j f 0 (by omega)
  rw [Nat.zero_add, List.drop_zero, Nat.zero_add] at h
  rw [h]
  unfold sumZ
  show 0 + _ = _
  rw [Int.zero_add]
def KK : Nat := 1267650600228229401496703205376
def hv (f : Nat → Nat) : Nat → Nat
  | 0 => 0
  | n + 1 => f 0 + KK * hv (fun i => f (i + 1)) n
theorem hv_add : ∀ (n : Nat) (f g : Nat → Nat), hv (fun i => f i + g i) n = hv f n + hv g n
  | 0, _, _ => rfl
  | n + 1, f, g => by
    rw [hv, hv, hv, hv_add n (fun i => f (i + 1)) (fun i => g (i + 1)), Nat.mul_add]
    omega
theorem hv_zero : ∀ n : Nat, hv (fun _ => 0) n = 0
  | 0 => rfl
  | n + 1 => by rw [hv, hv_zero n]; rfl
theorem hv_digit : ∀ (n : Nat) (f : Nat → Nat) (i : Nat), (∀ j, j < n → f j < KK) → i < n → hv f n / KK ^ i % KK = f i
  | 0, _, _, _, hi => by omega
  | n + 1, f, 0, h, _ => by
    rw [hv, Nat.pow_zero, Nat.div_one, Nat.add_mul_mod_self_left, Nat.mod_eq_of_lt (h 0 (by omega))]
  | n + 1, f, i + 1, h, hi => by
    have hK : 0 < KK := by decide
    rw [hv, Nat.pow_succ, Nat.mul_comm (KK ^ i) KK, ← Nat.div_div_eq_div_mul, Nat.add_mul_div_left _ _ hK, Nat.div_eq_of_lt (h 0 (by omega)), Nat.zero_add]
    exact hv_digit n (fun i => f (i + 1)) i (fun j hj => h (j + 1) (by omega)) (by omega)
def gp (a : Nat) : Nat := 1 + KK * (a + KK * (a ^ 2 + KK * (a ^ 3 + KK * (a ^ 4 + KK * (a ^ 5 + KK * a ^ 6)))))
theorem gp_hv (a : Nat) : gp a = hv (fun j => a ^ j) 7 := by
  unfold gp
  simp only [hv, Nat.pow_zero, Nat.zero_add, Nat.mul_zero, Nat.add_zero, Nat.pow_one, Nat.reduceAdd]
def pk (neg : Bool) (m t : Nat) : Nat → Nat → List (List Nat) → Nat
  | 0, _, _ => 0
  | n + 1, a, l :: r => cond (Nat.beq (chiN neg m l) t) (gp a) 0 + pk neg m t n (a + 1) r
  | _ + 1, _, [] => 0
theorem pk_hv (neg : Bool) (m t : Nat) : ∀ (n a : Nat) (T : List (List Nat)), pk neg m t n a T = hv (fun j => sumP neg m t j n a T) 7
  | 0, _, _ => (hv_zero 7).symm
  | n + 1, _, [] => (hv_zero 7).symm
  | n + 1, a, l :: r => by
    have ih := pk_hv neg m t n (a + 1) r
    rw [pk, ih]
    have e : (fun j => sumP neg m t j (n + 1) a (l :: r)) = fun j => cond (Nat.beq (chiN neg m l) t) (a ^ j) 0 + sumP neg m t j n (a + 1) r := rfl
    rw [e, hv_add]
    cases Nat.beq (chiN neg m l) t with
    | true => rw [cond_true, gp_hv]; rfl
    | false => rw [cond_false]; exact congrArg (· + _) (hv_zero 7).symm
theorem sumP_le (neg : Bool) (m t j : Nat) : ∀ (n a : Nat) (T : List (List Nat)), sumP neg m t j n a T ≤ n * (a + n) ^ j
  | 0, _, _ => by simp [sumP]
  | n + 1, _, [] => by simp [sumP]
  | n + 1, a, l :: r => by
    have ih := sumP_le neg m t j n (a + 1) r
    have h1 : a ^ j ≤ (a + (n + 1)) ^ j := Nat.pow_le_pow_left (by omega) j
    rw [show a + 1 + n = a + (n + 1) by omega] at ih
    rw [sumP, Nat.add_mul, Nat.one_mul, Nat.add_comm]
    refine Nat.add_le_add ih ?_
    cases Nat.beq (chiN neg m l) t
    · exact Nat.zero_le _
    · exact h1
theorem sumP_lt (neg : Bool) (m t : Nat) {j f : Nat} (hj : j < 7) (hf : f ≤ 1000) : sumP neg m t j f 1 ftab < KK := by
  have h1 := sumP_le neg m t j f 1 ftab
  have h2 : f * (1 + f) ^ j ≤ 1000 * 1001 ^ 6 := Nat.mul_le_mul hf (Nat.le_trans (Nat.pow_le_pow_left (by omega) j) (Nat.pow_le_pow_right (by decide) (by omega)))
  have h3 : 1000 * 1001 ^ 6 < KK := by decide
  omega
def sumK (neg : Bool) (m f j : Nat) : Int := ((pk neg m 1 f 1 ftab / KK ^ j % KK : Nat) : Int) - ((pk neg m 2 f 1 ftab / KK ^ j % KK : Nat) : Int)
theorem sumK_ok (neg : Bool) (m : Nat) {j f : Nat} (hj : j < 7) (hf : f ≤ 1000) : sumZ neg m f j = sumK neg m f j := by
  unfold sumZ sumK
  rw [pk_hv, pk_hv, hv_digit 7 (fun j => sumP neg m 1 j f 1 ftab) j (fun i hi => sumP_lt neg m 1 hi hf) hj, hv_digit 7 (fun j => sumP neg m 2 j f 1 ftab) j (fun i hi => sumP_lt neg m 2 hi hf) hj]
theorem chi_trit (neg : Bool) (m : Nat) : trit (chi neg m) := fun a => by
  unfold chi sgn
  cases Nat.beq (chiN neg m (fc a)) 0 <;> cases Nat.beq (chiN neg m (fc a)) 1 <;> decide
theorem gsum_congr {k f : Nat} {S T : Nat → Int} (h : ∀ j, j ≤ k → S j = T j) : ∀ n, gsum k f S n = gsum k f T n
  | 0 => rfl
  | n + 1 => by rw [gsum, gsum, gsum_congr h n, h (k - n) (by omega)]
/-- The number that belongs to k and a discriminant. -/
def gz (x : Bool × Nat) (k : Nat) : Rat := gsum k x.2 (sumK x.1 x.2 x.2) (k + 1)
theorem gz_ok {x : Bool × Nat} (hx : x ∈ dtab) {k : Nat} (h1 : 1 ≤ k) (hk6 : k ≤ 6) : bernoulli_Generalized (k : Int) (dI x.1 x.2) = some (mkQ (gz x k), 0, ()) ∧ BQ 63001 (gz x k) := by
  have hk : k ≤ 20 := by omega
  obtain ⟨f1, f2, f3⟩ := fund_ok hx
  have h := gen_ok (c := chi x.1 x.2) (f := x.2) (chi_trit _ _) h1 hk f1 (by unfold dI; cases x.1 <;> simp) f2 (by omega) (fun a v ha haf hk => kr_chi x.1 x.2 ha (by omega) hk)
  have e : gsum k x.2 (fun j => ssum (chi x.1 x.2) j x.2) (k + 1) = gz x k := gsum_congr (fun j hj => (ssum_Z _ _ _ _ (by omega)).trans (sumK_ok _ _ (by omega) (by omega))) _
  rw [e] at h
  refine ⟨h, ?_⟩
  have hb := gsum_bd (k := k) (f := x.2) (S := fun j => ssum (chi x.1 x.2) j x.2) (fun j hj => ssum_B (chi_trit _ _) (by omega) (by omega)) hk f2 (by omega) (i := k + 1) (by omega)
  rw [e] at hb
  exact hb.mono (by omega)
end Go.Proofs.Ytbchgegclgpdhaa.V
