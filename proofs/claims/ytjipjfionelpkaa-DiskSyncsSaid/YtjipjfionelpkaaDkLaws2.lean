/- What the law DiskSyncs answers, and the openers of its arguments. -/
import Derived.Test.YtjipjfionelpkaaOpenE
